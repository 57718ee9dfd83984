/- Several texts in one: Fix, SnP, Inb, PkP, PkQ, Chg, Src, Df, GapS, GapI, SumS, SumI, Dg, Dh, Di, Grw, Dj, Dk, W16, W16s, W17, W18, Dl. -/
import Derived.Test.YtibojlpeaolfbaaCv
import Derived.Test.YtibojlpeaolfbaaSumP
import Derived.Test.YtibojlpeaolfbaaGapP
import Derived.Test.YtibojlpeaolfbaaVal
import Derived.Test.YtibojlpeaolfbaaPl
import Derived.Test.YtibojlpeaolfbaaFrT
import Derived.Test.YtibojlpeaolfbaaOpnB
import Derived.Laws.Bits64b
import Derived.Deep.RegionWith
import Derived.Deep.CutRange
import Derived.Deep.DeepCutAuto
import Derived.Test.YtibojlpeaolfbaaRelK
import Derived.Lib.AppendZeros
import Derived.Test.YtibojlpeaolfbaaGen
/- Numbers in units of a power of two: sums, products and comparisons of float32s are exact as long as they have at most 24 digits. -/
namespace Go.Proofs.Ytibojlpeaolfbaa
open Go

theorem fx_sw : Ieee.single.signWeight = 2147483648 := by decide
theorem fx_bi : Ieee.single.binade = 8388608 := by decide
theorem fx_ir : Ieee.single.infRung = 2139095040 := by decide
theorem fx_lp : Ieee.single.leastPlace = -149 := by decide
theorem fx_fb : Ieee.single.fractionBits = 23 := rfl

/-- A word's parts. -/
theorem word_parts (neg : Bool) (rung : Nat) (h : rung < 2147483648) : Ieee.single.word neg rung / 2147483648 % 2 = (if neg then 1 else 0) ∧ Ieee.single.word neg rung % 2147483648 = rung := by
  unfold Ieee.Format.word
  rw [fx_sw]
  cases neg <;> simp <;> omega
/-- A number of at most 24 digits at a place that the format has, is written and read back. -/
theorem read_nearest (neg : Bool) (m : Nat) (p : Int) (hm : m < 16777216) (h0 : -149 ≤ p) (h1 : p ≤ 100) :
    ∃ m' p', Ieee.single.read (Ieee.single.nearest neg m p) = .number neg m' p' ∧ -149 ≤ p' ∧ p' ≤ p + 24 ∧ m' * 2 ^ (p' + 149).toNat = m * 2 ^ (p + 149).toNat := by
  by_cases hz : m = 0
  · subst hz
    refine ⟨0, -149, ?_, by omega, by omega, by simp⟩
    unfold Ieee.Format.nearest
    rw [if_pos rfl]
    obtain ⟨h1, h2⟩ := word_parts neg 0 (by omega)
    unfold Ieee.Format.read
    rw [fx_sw, fx_bi, fx_lp, h1, h2]
    cases neg <;> rfl
  · have hlog : m.log2 < 24 := (Nat.log2_lt hz).2 hm
    have hlo : 2 ^ m.log2 ≤ m := Nat.log2_self_le hz
    have hhi : m < 2 ^ (m.log2 + 1) := Nat.lt_log2_self
    unfold Ieee.Format.nearest
    rw [if_neg hz, fx_fb, fx_lp, fx_bi, fx_ir]
    dsimp only
    -- the last place is not beyond p
    have hlast : max (p + (m.log2 : Int) - 23) (-149) ≤ p := by omega
    generalize hL : max (p + (m.log2 : Int) - 23) (-149) = last at *
    have hd : (last - p).toNat = 0 := by omega
    rw [hd]
    have hcut : ∀ n, Ieee.Toward.even.cut neg n 0 = n := by
      intro n
      unfold Ieee.Toward.cut
      have : 1 <<< min 0 (n.log2 + 2) = 1 := by simp
      simp only [this, Nat.div_one, Nat.mod_one]
      simp
    rw [hcut]
    have hs : m <<< (p - last).toNat = m * 2 ^ (p - last).toNat := Nat.shiftLeft_eq _ _
    rw [hs]
    obtain ⟨d, hdd⟩ : ∃ d : Nat, p - last = d := ⟨(p - last).toNat, by omega⟩
    have hdt : (p - last).toNat = d := by omega
    rw [hdt]
    have hk : m * 2 ^ d < 16777216 := by
      have : d ≤ 23 - m.log2 := by omega
      calc m * 2 ^ d < 2 ^ (m.log2 + 1) * 2 ^ d := Nat.mul_lt_mul_of_pos_right hhi (Nat.two_pow_pos _)
        _ = 2 ^ (m.log2 + 1 + d) := (Nat.pow_add _ _ _).symm
        _ ≤ 2 ^ 24 := Nat.pow_le_pow_right (by decide) (by omega)
    generalize hK : m * 2 ^ d = k at *
    obtain ⟨t, ht⟩ : ∃ t : Nat, last + 149 = t := ⟨(last + 149).toNat, by omega⟩
    have htt : (last - -149).toNat = t := by omega
    rw [htt]
    have htu : t ≤ 249 := by omega
    have hrung : t * 8388608 + k < 2139095040 := by omega
    rw [Nat.min_eq_left (by omega)]
    obtain ⟨w1, w2⟩ := word_parts neg (t * 8388608 + k) (by omega)
    have hval : k * 2 ^ t = m * 2 ^ (p + 149).toNat := by
      rw [← hK, Nat.mul_assoc, ← Nat.pow_add]
      congr 2
      omega
    unfold Ieee.Format.read
    rw [fx_sw, fx_bi, fx_ir, fx_lp, w1, w2]
    dsimp only
    have hneg : (((if neg then 1 else 0 : Nat) == 1) = neg) := by cases neg <;> rfl
    rw [hneg]
    by_cases hsub : t * 8388608 + k < 8388608
    · rw [if_pos hsub]
      have ht0 : t = 0 := by omega
      subst ht0
      exact ⟨_, _, rfl, by omega, by omega, by rw [← hval]; simp⟩
    · rw [if_neg hsub, if_pos hrung]
      by_cases hk2 : 8388608 ≤ k
      · refine ⟨_, _, rfl, by omega, by omega, ?_⟩
        have e1 : (t * 8388608 + k) % 8388608 = k - 8388608 := by omega
        have e2 : (t * 8388608 + k) / 8388608 - 1 = t := by omega
        rw [e1, e2, ← hval]
        have e3 : 8388608 + (k - 8388608) = k := by omega
        have e4 : ((-149 : Int) + (t : Nat) + 149).toNat = t := by omega
        rw [e3, e4]
      · exfalso
        -- k ≥ 2^23 unless the last place is the least one
        have hlt : last = -149 := by
          by_cases h : last = -149
          · exact h
          · exfalso
            have h2 : last = p + (m.log2 : Int) - 23 := by omega
            have h3 : d = 23 - m.log2 := by omega
            have : 2 ^ 23 ≤ m * 2 ^ d := by
              calc 2 ^ 23 = 2 ^ m.log2 * 2 ^ d := by rw [← Nat.pow_add]; congr 1; omega
                _ ≤ m * 2 ^ d := Nat.mul_le_mul_right _ hlo
            omega
        omega

/-- Digits that are zeros at the end may be told by the place. -/
theorem nearest_shift (neg : Bool) (n j : Nat) (p : Int) (hn : n < 16777216) (hz : n ≠ 0) (h0 : -149 ≤ p) : Ieee.single.nearest neg (n * 2 ^ j) p = Ieee.single.nearest neg n (p + j) := by
  have hpos : 0 < n := Nat.pos_of_ne_zero hz
  have hz2 : n * 2 ^ j ≠ 0 := Nat.mul_ne_zero hz (Nat.ne_of_gt (Nat.two_pow_pos _))
  have hlog : n.log2 < 24 := (Nat.log2_lt hz).2 hn
  have hl2 : (n * 2 ^ j).log2 = n.log2 + j := by
    rw [Nat.log2_eq_iff hz2]
    have h1 : 2 ^ n.log2 ≤ n := Nat.log2_self_le hz
    have h2 : n < 2 ^ (n.log2 + 1) := Nat.lt_log2_self
    refine ⟨?_, ?_⟩
    · rw [Nat.pow_add]; exact Nat.mul_le_mul_right _ h1
    · rw [show n.log2 + j + 1 = n.log2 + 1 + j by omega, Nat.pow_add]
      exact Nat.mul_lt_mul_of_pos_right h2 (Nat.two_pow_pos _)
  unfold Ieee.Format.nearest
  rw [if_neg hz2, if_neg hz, fx_fb, fx_lp, fx_bi, fx_ir, hl2]
  dsimp only
  have hlast : max (p + ((n.log2 + j : Nat) : Int) - ((23 : Nat) : Int)) (-149) = max (p + (j : Int) + (n.log2 : Int) - ((23 : Nat) : Int)) (-149) := by congr 1; omega
  rw [hlast]
  have hle : max (p + (j : Int) + (n.log2 : Int) - ((23 : Nat) : Int)) (-149) ≤ p + j := by omega
  generalize max (p + (j : Int) + (n.log2 : Int) - ((23 : Nat) : Int)) (-149) = last at *
  have hd : (last - (p + (j : Int))).toNat = 0 := by omega
  rw [hd]
  have hcut : ∀ n, Ieee.Toward.even.cut neg n 0 = n := by
    intro n
    unfold Ieee.Toward.cut
    have : 1 <<< min 0 (n.log2 + 2) = 1 := by simp
    simp only [this, Nat.div_one, Nat.mod_one]
    simp
  rw [hcut]
  congr 3
  rw [Nat.shiftLeft_eq, Nat.shiftLeft_eq]
  by_cases hlp : last ≤ p
  · have e0 : (last - p).toNat = 0 := by omega
    rw [e0, hcut, Nat.mul_assoc, ← Nat.pow_add]
    congr 2
    omega
  · have e0 : (p - last).toNat = 0 := by omega
    obtain ⟨d, hd2⟩ : ∃ d : Nat, last - p = d := ⟨(last - p).toNat, by omega⟩
    have e1 : (last - p).toNat = d := by omega
    have e2 : (p + (j : Int) - last).toNat = j - d := by omega
    have hdj : d ≤ j := by omega
    rw [e0, e1, e2, Nat.pow_zero, Nat.mul_one]
    have hsplit : n * 2 ^ j = n * 2 ^ (j - d) * 2 ^ d := by
      rw [Nat.mul_assoc, ← Nat.pow_add]; congr 2; omega
    unfold Ieee.Toward.cut
    rw [hl2]
    have hmin : min d (n.log2 + j + 2) = d := by omega
    rw [hmin, Nat.shiftLeft_eq, Nat.one_mul, hsplit]
    have hp : 0 < 2 ^ d := Nat.two_pow_pos _
    simp only [Nat.mul_div_cancel _ hp, Nat.mul_mod_left, Nat.mul_zero]
    have hne : ¬ (2 ^ d < 0) := by omega
    have hne2 : (2 ^ d == 0) = false := by simp
    simp [hne2]

/-- r stands for n units, where a unit is 2 to the power of -k. -/
def sg (s : Bool) (m : Nat) : Int := if s then -(m : Int) else (m : Int)
def Fx (k : Nat) (r : Nat) (n : Int) : Prop := ∃ s m e, Ieee.single.read r = .number s m e ∧ m < 16777216 ∧ -149 ≤ e ∧ e ≤ 104 ∧ sg s m * ((2 ^ (e + 149).toNat : Nat) : Int) = n * ((2 ^ (149 - k) : Nat) : Int)
theorem signed_eq (s : Bool) (m u : Nat) : Ieee.signed s m u = sg s m * ((2 ^ u : Nat) : Int) := by
  unfold Ieee.signed sg
  rw [Nat.shiftLeft_eq]
  cases s <;> simp [Int.neg_mul]
theorem sg_abs (s : Bool) (m : Nat) : (sg s m).natAbs = m := by unfold sg; cases s <;> simp
theorem pow_cast (n : Nat) : ((2 ^ n : Nat) : Int) ≠ 0 := by
  have : 0 < 2 ^ n := Nat.two_pow_pos n
  omega
/-- A number that is written. -/
theorem fx_write (k : Nat) (neg : Bool) (T : Nat) (p : Int) (n : Int) (hk : k ≤ 140) (hn : n.natAbs < 16777216) (hs : T ≠ 0 → (n < 0 ↔ neg = true)) (hp : T ≠ 0 → -149 ≤ p)
    (h : T ≠ 0 → T * 2 ^ (p + 149).toNat = n.natAbs * 2 ^ (149 - k)) (hz : T = 0 → n = 0) : Fx k (Ieee.single.write (.number neg T p)) n := by
  by_cases h0 : T = 0
  · have hn0 := hz h0
    subst h0 hn0
    refine ⟨neg, 0, -149, ?_, by decide, by decide, by decide, by unfold sg; cases neg <;> simp⟩
    show Ieee.single.read (Ieee.single.nearest neg 0 p) = _
    unfold Ieee.Format.nearest
    rw [if_pos rfl]
    cases neg <;> decide +kernel
  · have h1 := h h0
    have hp0 := hp h0
    have hN : n.natAbs ≠ 0 := by
      intro e
      rw [e, Nat.zero_mul] at h1
      rcases Nat.mul_eq_zero.1 h1 with h | h
      · exact h0 h
      · exact absurd h (Nat.ne_of_gt (Nat.two_pow_pos _))
    have key : ∃ m' p', Ieee.single.read (Ieee.single.nearest neg T p) = .number neg m' p' ∧ -149 ≤ p' ∧ m' * 2 ^ (p' + 149).toNat = n.natAbs * 2 ^ (149 - k) := by
      by_cases hle : (p + 149).toNat ≤ 149 - k
      · have e : T = n.natAbs * 2 ^ ((149 - k) - (p + 149).toNat) := by
          have : T * 2 ^ (p + 149).toNat = n.natAbs * 2 ^ ((149 - k) - (p + 149).toNat) * 2 ^ (p + 149).toNat := by
            rw [h1, Nat.mul_assoc, ← Nat.pow_add]
            congr 2
            omega
          exact Nat.eq_of_mul_eq_mul_right (Nat.two_pow_pos _) this
        rw [e, nearest_shift neg _ _ p hn hN hp0]
        obtain ⟨m', p', r1, r2, r3, r4⟩ := read_nearest neg n.natAbs (p + (((149 - k) - (p + 149).toNat : Nat) : Int)) hn (by omega) (by omega)
        refine ⟨m', p', r1, r2, ?_⟩
        rw [r4]
        congr 2
        omega
      · have e : n.natAbs = T * 2 ^ ((p + 149).toNat - (149 - k)) := by
          have : n.natAbs * 2 ^ (149 - k) = T * 2 ^ ((p + 149).toNat - (149 - k)) * 2 ^ (149 - k) := by
            rw [← h1, Nat.mul_assoc, ← Nat.pow_add]
            congr 2
            omega
          exact Nat.eq_of_mul_eq_mul_right (Nat.two_pow_pos _) this
        have hT : T < 16777216 := by
          have : T * 1 ≤ T * 2 ^ ((p + 149).toNat - (149 - k)) := Nat.mul_le_mul_left _ (Nat.two_pow_pos _)
          omega
        have hpp : (p + 149).toNat - (149 - k) < 24 := by
          have h2 : 1 * 2 ^ ((p + 149).toNat - (149 - k)) ≤ T * 2 ^ ((p + 149).toNat - (149 - k)) := Nat.mul_le_mul_right _ (Nat.pos_of_ne_zero h0)
          have h3 : 2 ^ ((p + 149).toNat - (149 - k)) < 2 ^ 24 := by omega
          exact (Nat.pow_lt_pow_iff_right (by decide)).1 h3
        obtain ⟨m', p', r1, r2, r3, r4⟩ := read_nearest neg T p hT hp0 (by omega)
        exact ⟨m', p', r1, r2, by rw [r4, h1]⟩
    obtain ⟨m', p', r1, r2, r3⟩ := key
    have hb := read_bounds32 _ r1
    refine ⟨neg, m', p', r1, hb.1, hb.2.2, hb.2.1, ?_⟩
    have hs1 := hs h0
    have r4 : ((m' : Int)) * ((2 ^ (p' + 149).toNat : Nat) : Int) = (n.natAbs : Int) * ((2 ^ (149 - k) : Nat) : Int) := by exact_mod_cast r3
    unfold sg
    cases neg with
    | true =>
      have : n < 0 := hs1.2 rfl
      have e : n = -(n.natAbs : Int) := by omega
      rw [if_pos rfl, Int.neg_mul, r4, e]
      simp [Int.neg_mul]
    | false =>
      have : ¬ n < 0 := fun h => by have := hs1.1 h; cases this
      have e : n = (n.natAbs : Int) := by omega
      rw [if_neg (by decide), r4]
      rw [← e]
theorem sg_neg (s : Bool) (m : Nat) (hm : m ≠ 0) : sg s m < 0 ↔ s = true := by
  unfold sg; cases s <;> simp <;> omega
theorem sg_lt_iff {s : Bool} {m : Nat} {a b : Nat} {n : Int} (ha : 0 < a) (hb : 0 < b) (hm : m ≠ 0) (h : sg s m * (a : Int) = n * (b : Int)) : n < 0 ↔ s = true := by
  rw [← sg_neg s m hm]
  have ha' : (0 : Int) < a := by omega
  have hb' : (0 : Int) < b := by omega
  constructor
  · intro hn
    have : n * (b : Int) < 0 := Int.mul_neg_of_neg_of_pos hn hb'
    rw [← h] at this
    by_cases h2 : sg s m < 0
    · exact h2
    · have := Int.mul_nonneg (Int.not_lt.1 h2) (Int.le_of_lt ha'); omega
  · intro hs
    have : sg s m * (a : Int) < 0 := Int.mul_neg_of_neg_of_pos hs ha'
    rw [h] at this
    by_cases h2 : n < 0
    · exact h2
    · have := Int.mul_nonneg (Int.not_lt.1 h2) (Int.le_of_lt hb'); omega
theorem two_pos (n : Nat) : (0 : Int) < ((2 ^ n : Nat) : Int) := by have := Nat.two_pow_pos n; omega
theorem abs_mul (a : Int) (b : Nat) : (a * (b : Int)).natAbs = a.natAbs * b := by rw [Int.natAbs_mul]; rfl
theorem Fx.add {k x y : Nat} {a b : Int} (hx : Fx k x a) (hy : Fx k y b) (hk : k ≤ 140) (h : (a + b).natAbs < 16777216) : ∃ r, Ieee.single.add x y = some r ∧ Fx k r (a + b) := by
  obtain ⟨s, m, i, hx1, -, hi0, hi1, hx2⟩ := hx
  obtain ⟨t, n, j, hy1, -, hj0, hj1, hy2⟩ := hy
  unfold Ieee.Format.add
  rw [hx1, hy1]
  simp only [Ieee.Datum.sum, Option.map_some]
  rw [signed_eq, signed_eq]
  generalize hb : min i j = base
  have hb0 : -149 ≤ base := by omega
  have hT : (sg s m * ((2 ^ (i - base).toNat : Nat) : Int) + sg t n * ((2 ^ (j - base).toNat : Nat) : Int)) * ((2 ^ (base + 149).toNat : Nat) : Int) = (a + b) * ((2 ^ (149 - k) : Nat) : Int) := by
    rw [Int.add_mul, Int.add_mul, ← hx2, ← hy2, Int.mul_assoc, Int.mul_assoc, ← Int.natCast_mul, ← Int.natCast_mul, ← Nat.pow_add, ← Nat.pow_add]
    have e1 : (i - base).toNat + (base + 149).toNat = (i + 149).toNat := by omega
    have e2 : (j - base).toNat + (base + 149).toNat = (j + 149).toNat := by omega
    rw [e1, e2]
  generalize sg s m * ((2 ^ (i - base).toNat : Nat) : Int) + sg t n * ((2 ^ (j - base).toNat : Nat) : Int) = T at *
  refine ⟨_, rfl, fx_write k _ T.natAbs base (a + b) hk h ?_ (fun _ => hb0) ?_ ?_⟩
  · intro hT0
    have hT1 : T ≠ 0 := by omega
    rw [if_neg hT1]
    have p1 := two_pos (base + 149).toNat
    have p2 := two_pos (149 - k)
    constructor
    · intro hn
      have h3 := Int.mul_neg_of_neg_of_pos hn p2
      rw [← hT] at h3
      have : T < 0 := by
        by_cases h2 : T < 0
        · exact h2
        · have := Int.mul_nonneg (Int.not_lt.1 h2) (Int.le_of_lt p1); omega
      simpa using this
    · intro hd
      have hd : T < 0 := by simpa using hd
      have h3 := Int.mul_neg_of_neg_of_pos hd p1
      rw [hT] at h3
      by_cases h2 : a + b < 0
      · exact h2
      · have := Int.mul_nonneg (Int.not_lt.1 h2) (Int.le_of_lt p2); omega
  · intro _
    rw [← abs_mul, ← abs_mul, hT]
  · intro h0
    have hT0 : T = 0 := by omega
    rw [hT0, Int.zero_mul] at hT
    rcases Int.mul_eq_zero.1 hT.symm with h | h
    · exact h
    · exact absurd h (pow_cast _)
theorem Fx.mul {k l x y : Nat} {a b : Int} (hx : Fx k x a) (hy : Fx l y b) (hk : k + l ≤ 100) (h : (a * b).natAbs < 16777216) : ∃ r, Ieee.single.mul x y = some r ∧ Fx (k + l) r (a * b) := by
  obtain ⟨s, m, i, hx1, hm, hi0, hi1, hx2⟩ := hx
  obtain ⟨t, n, j, hy1, hn, hj0, hj1, hy2⟩ := hy
  unfold Ieee.Format.mul
  rw [hx1, hy1]
  simp only [Ieee.Datum.product, Option.map_some]
  have ex : m * 2 ^ (i + 149).toNat = a.natAbs * 2 ^ (149 - k) := by rw [← abs_mul, ← hx2, abs_mul, sg_abs]
  have ey : n * 2 ^ (j + 149).toNat = b.natAbs * 2 ^ (149 - l) := by rw [← abs_mul, ← hy2, abs_mul, sg_abs]
  have low : ∀ (m k : Nat) (i : Int) (a : Int), -149 ≤ i → m < 16777216 → k ≤ 140 → m ≠ 0 → m * 2 ^ (i + 149).toNat = a.natAbs * 2 ^ (149 - k) → -(k : Int) - 24 < i := by
    intro m k i a hi hm hk hm0 e
    by_cases hc : -(k : Int) - 24 < i
    · exact hc
    · exfalso
      have ha : 1 ≤ a.natAbs := by
        rcases Nat.eq_zero_or_pos a.natAbs with h | h
        · rw [h, Nat.zero_mul] at e
          rcases Nat.mul_eq_zero.1 e with h | h
          · exact absurd h hm0
          · exact absurd h (Nat.ne_of_gt (Nat.two_pow_pos _))
        · exact h
      have h1 : 2 ^ (149 - k) ≤ m * 2 ^ (i + 149).toNat := by rw [e]; exact Nat.le_mul_of_pos_left _ ha
      have h2 : m * 2 ^ (i + 149).toNat < 2 ^ 24 * 2 ^ (i + 149).toNat := Nat.mul_lt_mul_of_pos_right hm (Nat.two_pow_pos _)
      rw [← Nat.pow_add] at h2
      have h3 := (Nat.pow_lt_pow_iff_right (by decide)).1 (Nat.lt_of_le_of_lt h1 h2)
      omega
  have key : m * n ≠ 0 → -149 ≤ i + j ∧ m * n * 2 ^ (i + j + 149).toNat = (a * b).natAbs * 2 ^ (149 - (k + l)) := by
    intro hmn
    have hm0 : m ≠ 0 := fun e => hmn (by rw [e, Nat.zero_mul])
    have hn0 : n ≠ 0 := fun e => hmn (by rw [e, Nat.mul_zero])
    have l1 := low m k i a hi0 hm (by omega) hm0 ex
    have l2 := low n l j b hj0 hn (by omega) hn0 ey
    refine ⟨by omega, ?_⟩
    have e3 : m * n * 2 ^ (i + j + 149).toNat * 2 ^ 149 = (a * b).natAbs * 2 ^ (149 - (k + l)) * 2 ^ 149 := by
      have e4 : (m * 2 ^ (i + 149).toNat) * (n * 2 ^ (j + 149).toNat) = (a.natAbs * 2 ^ (149 - k)) * (b.natAbs * 2 ^ (149 - l)) := by rw [ex, ey]
      have p1 : m * n * 2 ^ (i + j + 149).toNat * 2 ^ 149 = (m * 2 ^ (i + 149).toNat) * (n * 2 ^ (j + 149).toNat) := by
        have : (i + 149).toNat + (j + 149).toNat = (i + j + 149).toNat + 149 := by omega
        rw [Nat.mul_assoc (m * n), ← Nat.pow_add, ← this, Nat.pow_add]
        ac_rfl
      have p2 : (a * b).natAbs * 2 ^ (149 - (k + l)) * 2 ^ 149 = (a.natAbs * 2 ^ (149 - k)) * (b.natAbs * 2 ^ (149 - l)) := by
        have : (149 - k) + (149 - l) = 149 - (k + l) + 149 := by omega
        rw [Int.natAbs_mul, Nat.mul_assoc (a.natAbs * b.natAbs), ← Nat.pow_add, ← this, Nat.pow_add]
        ac_rfl
      rw [p1, p2, e4]
    exact Nat.eq_of_mul_eq_mul_right (Nat.two_pow_pos _) e3
  refine ⟨_, rfl, fx_write (k + l) _ (m * n) (i + j) (a * b) (by omega) h ?_ (fun h0 => (key h0).1) (fun h0 => (key h0).2) ?_⟩
  · intro hmn
    have hm0 : m ≠ 0 := fun e => hmn (by rw [e, Nat.zero_mul])
    have hn0 : n ≠ 0 := fun e => hmn (by rw [e, Nat.mul_zero])
    have sa := sg_lt_iff (Nat.two_pow_pos _) (Nat.two_pow_pos _) hm0 hx2
    have sb := sg_lt_iff (Nat.two_pow_pos _) (Nat.two_pow_pos _) hn0 hy2
    have na : a ≠ 0 := fun e => by rw [e, Int.natAbs_zero, Nat.zero_mul] at ex; exact (Nat.mul_eq_zero.1 ex).elim hm0 (Nat.ne_of_gt (Nat.two_pow_pos _))
    have nb : b ≠ 0 := fun e => by rw [e, Int.natAbs_zero, Nat.zero_mul] at ey; exact (Nat.mul_eq_zero.1 ey).elim hn0 (Nat.ne_of_gt (Nat.two_pow_pos _))
    cases s <;> cases t <;> simp at sa sb ⊢
    · exact Int.mul_nonneg sa sb
    · exact Int.mul_neg_of_pos_of_neg (by omega) sb
    · exact Int.mul_neg_of_neg_of_pos sa (by omega)
    · exact Int.mul_nonneg_of_nonpos_of_nonpos (by omega) (by omega)
  · intro h0
    rcases Nat.mul_eq_zero.1 h0 with h | h
    · rw [h, Nat.zero_mul] at ex
      rcases Nat.mul_eq_zero.1 ex.symm with h2 | h2
      · rw [Int.natAbs_eq_zero.1 h2, Int.zero_mul]
      · exact absurd h2 (Nat.ne_of_gt (Nat.two_pow_pos _))
    · rw [h, Nat.zero_mul] at ey
      rcases Nat.mul_eq_zero.1 ey.symm with h2 | h2
      · rw [Int.natAbs_eq_zero.1 h2, Int.mul_zero]
      · exact absurd h2 (Nat.ne_of_gt (Nat.two_pow_pos _))
theorem compare_scale (a b c : Int) (hc : 0 < c) : compare (a * c) (b * c) = compare a b := by
  rcases Int.lt_trichotomy a b with h | h | h
  · rw [Int.compare_eq_lt.2 h, Int.compare_eq_lt.2 (Int.mul_lt_mul_of_pos_right h hc)]
  · rw [h]
    simp
  · rw [Int.compare_eq_gt.2 h, Int.compare_eq_gt.2 (Int.mul_lt_mul_of_pos_right h hc)]
theorem Fx.order {k x y : Nat} {a b : Int} (hx : Fx k x a) (hy : Fx k y b) : Ieee.single.order x y = some (compare a b) := by
  obtain ⟨s, m, i, hx1, -, hi0, hi1, hx2⟩ := hx
  obtain ⟨t, n, j, hy1, -, hj0, hj1, hy2⟩ := hy
  unfold Ieee.Format.order
  rw [hx1, hy1]
  simp only [Ieee.Datum.order]
  rw [signed_eq, signed_eq]
  generalize hb : min i j = base
  have hb0 : -149 ≤ base := by omega
  rw [← compare_scale (sg s m * ((2 ^ (i - base).toNat : Nat) : Int)) _ _ (two_pos (base + 149).toNat), ← compare_scale a b _ (two_pos (149 - k)), ← hx2, ← hy2]
  congr 1
  have e1 : (i - base).toNat + (base + 149).toNat = (i + 149).toNat := by omega
  have e2 : (j - base).toNat + (base + 149).toNat = (j + 149).toNat := by omega
  rw [Int.mul_assoc, ← Int.natCast_mul, ← Nat.pow_add, e1, Int.mul_assoc, ← Int.natCast_mul, ← Nat.pow_add, e2]
theorem Fx.notNan {k x : Nat} {a : Int} (h : Fx k x a) : (Ieee.single.read x).isNaN = false := by
  obtain ⟨s, m, e, h, -⟩ := h
  rw [h]; rfl
/-- A finer unit. -/
theorem Fx.fine {k l x : Nat} {a : Int} (h : Fx k x a) (hl : k + l ≤ 149) : Fx (k + l) x (a * ((2 ^ l : Nat) : Int)) := by
  obtain ⟨s, m, e, h1, h2, h3, h4, h5⟩ := h
  refine ⟨s, m, e, h1, h2, h3, h4, ?_⟩
  rw [h5, Int.mul_assoc, ← Int.natCast_mul, ← Nat.pow_add]
  congr 3
  omega
theorem Fx.ofInt (n : Int) (hn : n.natAbs < 16777216) : Fx 0 (Ieee.single.nearest (decide (n < 0)) n.natAbs 0) n := by
  refine fx_write 0 _ n.natAbs 0 n (by decide) hn (fun _ => by simp) (fun _ => by decide) (fun _ => by rfl) (fun h => by omega)
theorem Fx.lt32 {k x : Nat} {a : Int} (h : Fx k x a) (hx : x < 2 ^ 32) : Cls .f32 x := FV.self (by rw [width32]; exact hx) h.notNan
theorem Fx.fv {k r x : Nat} {a : Int} (h : FV .f32 r x) (hx : Fx k x a) : Fx k r a := by
  rw [h.eq_of_not hx.notNan]; exact hx
theorem Fx.fopAdd {k x y : Nat} {a b : Int} (hx : Fx k x a) (hy : Fx k y b) (hk : k ≤ 140) (h : (a + b).natAbs < 16777216) : Fx k (fop .add .f32 x y) (a + b) := by
  obtain ⟨r, h1, h2⟩ := Fx.add hx hy hk h
  have e : floatBits .add .f32 x y = some r := h1
  unfold fop
  rw [e]; exact h2
theorem Fx.fopMul {k l x y : Nat} {a b : Int} (hx : Fx k x a) (hy : Fx l y b) (hk : k + l ≤ 100) (h : (a * b).natAbs < 16777216) : Fx (k + l) (fop .mul .f32 x y) (a * b) := by
  obtain ⟨r, h1, h2⟩ := Fx.mul hx hy hk h
  have e : floatBits .mul .f32 x y = some r := h1
  unfold fop
  rw [e]; exact h2
/-- A closed number. -/
def fxB (k r : Nat) (n : Int) : Bool := match Ieee.single.read r with
  | .number s m e => decide (m < 16777216) && (decide (-149 ≤ e) && (decide (e ≤ 104) && decide (sg s m * ((2 ^ (e + 149).toNat : Nat) : Int) = n * ((2 ^ (149 - k) : Nat) : Int))))
  | _ => false
theorem Fx.of {k r : Nat} {n : Int} (h : fxB k r n = true) : Fx k r n := by
  unfold fxB at h
  split at h
  · rename_i s m e hr
    simp only [Bool.and_eq_true, decide_eq_true_eq] at h
    exact ⟨s, m, e, hr, h.1, h.2.1, h.2.2.1, h.2.2.2⟩
  · cases h
theorem Fx.zero (k : Nat) : Fx k 0 0 := by
  refine ⟨false, 0, -149, by decide +kernel, by decide, by decide, by decide, by simp [sg]⟩
end Go.Proofs.Ytibojlpeaolfbaa

/- Plain: sorted frames, the frames of all stations, gaps, spans, sums of eighths: what FnStations tells. -/
namespace Go.Proofs.Ytibojlpeaolfbaa
open Go Go.RowKit

theorem ltF_asym {x y : FM} (h : ltF x y = true) : ltF y x = false := by
  unfold ltF at *
  simp at *
  omega
theorem ltF_trans {x y z : FM} (h : ltF x y = false) (k : ltF y z = false) : ltF x z = false := by
  unfold ltF at *
  simp at *
  omega
theorem insRev_sorted (x : FM) (R : List FM) (h : R.Pairwise fun a b => ltF a b = false) : (insRev ltF x R).Pairwise fun a b => ltF a b = false := by
  induction R with
  | nil => simp [insRev]
  | cons y r ih =>
    obtain ⟨h1, h2⟩ := List.pairwise_cons.1 h
    rw [insRev]
    by_cases hl : ltF x y = true
    · rw [if_pos hl]
      refine List.pairwise_cons.2 ⟨fun z hz => ?_, ih h2⟩
      rcases (insRev_mem ltF x z r).1 hz with rfl | hz
      · exact ltF_asym hl
      · exact h1 z hz
    · rw [if_neg hl]
      have hl : ltF x y = false := by simpa using hl
      refine List.pairwise_cons.2 ⟨fun z hz => ?_, h⟩
      rcases List.mem_cons.1 hz with rfl | hz
      · exact hl
      · exact ltF_trans hl (h1 z hz)
theorem insR_sorted (x : FM) (L : List FM) (h : L.Pairwise fun a b => ltF b a = false) : (insR ltF x L).Pairwise fun a b => ltF b a = false := by
  unfold insR
  rw [List.pairwise_reverse]
  exact insRev_sorted x _ (List.pairwise_reverse.2 h)
theorem insAll_sorted (acc L : List FM) (h : acc.Pairwise fun a b => ltF b a = false) : (insAll ltF acc L).Pairwise fun a b => ltF b a = false := by
  induction L generalizing acc with
  | nil => exact h
  | cons x r ih => exact ih _ (insR_sorted x acc h)
theorem sortF_sorted (Fs : List FM) : (sortF Fs).Pairwise fun a b => ltF b a = false := insAll_sorted [] Fs List.Pairwise.nil
theorem ofF_sorted (Fs : List FM) (s : Int) : (ofF Fs s).Pairwise fun a b => ltF b a = false := (sortF_sorted Fs).filter _
theorem sorted_at {Ms : List FM} (h : Ms.Pairwise fun a b => ltF b a = false) {k i : Nat} (hk : k < i) (hi : i < Ms.length) : ltF (frAt Ms i) (frAt Ms k) = false := by
  have := List.pairwise_iff_getElem.1 h k i (by omega) hi hk
  simpa [frAt, List.getD_eq_getElem?_getD, List.getElem?_eq_getElem hi, List.getElem?_eq_getElem (show k < Ms.length by omega)] using this
/-- No frame of sorted ones is late. -/
theorem sorted_late (Fs : List FM) {k i : Nat} (hk : k < i) (hi : i < (sortF Fs).length) : ¬ ((frAt (sortF Fs) k).st = (frAt (sortF Fs) i).st ∧ (frAt (sortF Fs) k).sa > (frAt (sortF Fs) i).sa) := by
  have := sorted_at (sortF_sorted Fs) hk hi
  unfold ltF at this
  simp at this
  omega
theorem frAt_mem {Fs : List FM} {j : Nat} (h : j < Fs.length) : frAt Fs j ∈ Fs := by
  have : frAt Fs j = Fs[j] := by simp [frAt, List.getD_eq_getElem?_getD, List.getElem?_eq_getElem h]
  rw [this]; exact List.getElem_mem h
theorem ofF_st {Fs : List FM} {s : Int} {f : FM} (h : f ∈ ofF Fs s) : f.st = s ∧ f ∈ Fs := by
  obtain ⟨h1, h2⟩ := List.mem_filter.1 h
  refine ⟨by simpa using h2, ?_⟩
  have := (insAll_mem ltF [] Fs f).1 h1
  simpa using this
theorem ofF_rise (Fs : List FM) (s : Int) {i j : Nat} (hk : i < j) (hi : j < (ofF Fs s).length) : (frAt (ofF Fs s) i).sa ≤ (frAt (ofF Fs s) j).sa := by
  have h1 := sorted_at (ofF_sorted Fs s) hk hi
  have h2 := (ofF_st (frAt_mem (Fs := ofF Fs s) (j := i) (by omega))).1
  have h3 := (ofF_st (frAt_mem (Fs := ofF Fs s) (j := j) hi)).1
  unfold ltF at h1
  simp at h1
  omega

theorem part_st (L : List FM) (s : Int) (h : L.Pairwise fun a b => ltF b a = false) (hs : ∀ f ∈ L, s ≤ f.st) : L.filter (fun f => decide (f.st = s)) ++ L.filter (fun f => !decide (f.st = s)) = L := by
  induction L with
  | nil => rfl
  | cons x r ih =>
    obtain ⟨h1, h2⟩ := List.pairwise_cons.1 h
    by_cases hx : x.st = s
    · rw [List.filter_cons_of_pos (by simp [hx]), List.filter_cons_of_neg (by simp [hx]), List.cons_append, ih h2 fun f hf => hs f (List.mem_cons_of_mem _ hf)]
    · have hlt : s < x.st := by have := hs x (List.mem_cons_self ..); omega
      have hr : ∀ f ∈ r, f.st ≠ s := fun f hf => by
        have := h1 f hf
        unfold ltF at this
        simp at this
        omega
      have e1 : (x :: r).filter (fun f => decide (f.st = s)) = [] := by
        rw [List.filter_eq_nil_iff]
        intro f hf
        rcases List.mem_cons.1 hf with rfl | hf
        · simpa using hx
        · simpa using hr f hf
      have e2 : (x :: r).filter (fun f => !decide (f.st = s)) = x :: r := by
        rw [List.filter_eq_self]
        intro f hf
        rcases List.mem_cons.1 hf with rfl | hf
        · simpa using hx
        · simpa using hr f hf
      rw [e1, e2]; rfl
theorem flat_st (Ss : List Int) : ∀ (L : List FM), Ss.Pairwise (· < ·) → L.Pairwise (fun a b => ltF b a = false) → (∀ f ∈ L, f.st ∈ Ss) → Ss.flatMap (fun s => L.filter fun f => decide (f.st = s)) = L := by
  induction Ss with
  | nil =>
    intro L _ _ h
    cases L with
    | nil => rfl
    | cons f r => exact absurd (h f (List.mem_cons_self ..)) (by simp)
  | cons s r ih =>
    intro L hp hL hm
    obtain ⟨p1, p2⟩ := List.pairwise_cons.1 hp
    have hge : ∀ f ∈ L, s ≤ f.st := fun f hf => by
      rcases List.mem_cons.1 (hm f hf) with h | h
      · omega
      · have := p1 _ h; omega
    have h2 := ih (L.filter fun f => !decide (f.st = s)) p2 (hL.filter _) (fun f hf => by
      obtain ⟨a, b⟩ := List.mem_filter.1 hf
      rcases List.mem_cons.1 (hm f a) with h | h
      · simp [h] at b
      · exact h)
    have h3 : r.flatMap (fun s' => (L.filter fun f => !decide (f.st = s)).filter fun f => decide (f.st = s')) = r.flatMap (fun s' => L.filter fun f => decide (f.st = s')) := by
      have : ∀ s' ∈ r, ((L.filter fun f => !decide (f.st = s)).filter fun f => decide (f.st = s')) = L.filter fun f => decide (f.st = s') := fun s' hs' => by
        rw [List.filter_filter]
        refine List.filter_congr fun f _ => ?_
        have := p1 s' hs'
        by_cases e : f.st = s'
        · simp [e]; omega
        · simp [e]
      unfold List.flatMap
      rw [List.map_congr_left this]
    rw [List.flatMap_cons, ← h3, h2]
    exact part_st L s hL hge
/-- The frames of the first stations. -/
def totF (Fs : List FM) (Ss : List Int) (i : Nat) : List FM := (Ss.take i).flatMap fun s => ofF Fs s
theorem totF_succ (Fs : List FM) (Ss : List Int) (i : Nat) (h : i < Ss.length) : totF Fs Ss (i + 1) = totF Fs Ss i ++ ofF Fs (inL Ss i) := by
  unfold totF
  rw [List.take_add_one, List.flatMap_append, List.getElem?_eq_getElem h]
  simp [inL, List.getD_eq_getElem?_getD, List.getElem?_eq_getElem h]
theorem frAt_of_mem {Fs : List FM} {f : FM} (h : f ∈ Fs) : ∃ j, j < Fs.length ∧ frAt Fs j = f := by
  obtain ⟨j, hj, e⟩ := List.mem_iff_getElem.1 h
  exact ⟨j, hj, by simp [frAt, List.getD_eq_getElem?_getD, List.getElem?_eq_getElem hj, e]⟩
theorem totF_all (Fs : List FM) : totF Fs (stTo Fs Fs.length) (stTo Fs Fs.length).length = sortF Fs := by
  unfold totF
  rw [List.take_length]
  refine flat_st _ _ (stTo_asc Fs _) (sortF_sorted Fs) fun f hf => ?_
  have : f ∈ Fs := by have := (insAll_mem ltF [] Fs f).1 hf; simpa using this
  obtain ⟨j, hj, e⟩ := frAt_of_mem this
  exact (stTo_mem Fs _ _).2 ⟨j, hj, by rw [e]⟩
theorem totF_len (Fs : List FM) (i : Nat) : (totF Fs (stTo Fs Fs.length) i).length ≤ Fs.length := by
  have h1 : (totF Fs (stTo Fs Fs.length) i).length ≤ (totF Fs (stTo Fs Fs.length) (stTo Fs Fs.length).length).length := by
    unfold totF
    rw [List.take_length]
    conv => rhs; rw [← List.take_append_drop i (stTo Fs Fs.length), List.flatMap_append, List.length_append]
    omega
  rw [totF_all] at h1
  have : (sortF Fs).length = Fs.length := sortF_length Fs
  omega
/-- A station that is one of a frame has frames. -/
theorem ofF_pos {Fs : List FM} {i : Nat} (h : i < (stTo Fs Fs.length).length) : 0 < (ofF Fs (inL (stTo Fs Fs.length) i)).length ∧ ∃ j, j < Fs.length ∧ (frAt Fs j).st = inL (stTo Fs Fs.length) i := by
  have hm : inL (stTo Fs Fs.length) i ∈ stTo Fs Fs.length := by
    have : inL (stTo Fs Fs.length) i = (stTo Fs Fs.length)[i] := by simp [inL, List.getD_eq_getElem?_getD, List.getElem?_eq_getElem h]
    rw [this]; exact List.getElem_mem h
  obtain ⟨k, hk, e⟩ := (stTo_mem Fs _ _).1 hm
  refine ⟨?_, k, hk, e⟩
  have : frAt Fs k ∈ ofF Fs (inL (stTo Fs Fs.length) i) := by
    refine List.mem_filter.2 ⟨?_, by simpa using e⟩
    exact (insAll_mem ltF [] Fs _).2 (.inr (frAt_mem hk))
  exact List.length_pos_of_mem this

/-- Gaps. -/
def okG (g : List Int) (t : Int) : Bool := decide (t < inL g 0) || decide (inL g 1 ≤ t)
def okGs (G : List (List Int)) (t : Int) (j : Nat) : Bool := (G.take j).all fun g => okG g t
theorem okGs_succ (G : List (List Int)) (t : Int) (j : Nat) (h : j < G.length) : okGs G t (j + 1) = (okGs G t j && okG (rowI G j) t) := by
  unfold okGs rowI
  rw [List.take_add_one, List.all_append, List.getElem?_eq_getElem h]
  simp [List.getD_eq_getElem?_getD, List.getElem?_eq_getElem h]
def fEnd (f : FM) : Int := f.sa + (f.L.length : Nat)
theorem gap_all (Ms : List FM) (hs : Fsa Ms) (hl : ∀ j, j < Ms.length → 1 ≤ (frAt Ms j).L.length) (hm : ∀ i j, i < j → j < Ms.length → (frAt Ms i).sa ≤ (frAt Ms j).sa) (t : Int) : ∀ k, k + 1 ≤ Ms.length →
    ((∀ g ∈ gapL Ms (k + 1), inL g 1 ≤ (frAt Ms k).sa) ∧ (∀ j, j < k + 1 → fEnd (frAt Ms j) ≤ gapE Ms (k + 1)) ∧
      (((frAt Ms 0).sa ≤ t ∧ t < gapE Ms (k + 1) ∧ ∀ g ∈ gapL Ms (k + 1), t < inL g 0 ∨ inL g 1 ≤ t) ↔ ∃ j, j < k + 1 ∧ (frAt Ms j).sa ≤ t ∧ t < fEnd (frAt Ms j))) := by
  intro k
  induction k with
  | zero =>
    intro hk
    obtain ⟨a1, a2, a3⟩ := hs 0 (by omega)
    have h1 := hl 0 (by omega)
    have e1 : gapL Ms (0 + 1) = [] := by rw [gapL, if_neg (by omega)]; rfl
    have e2 : gapE Ms (0 + 1) = fEnd (frAt Ms 0) := by
      rw [gapE, gapE]
      unfold maxI fEnd
      rw [if_neg (by omega)]
    rw [e1, e2]
    refine ⟨fun g hg => (by cases hg), fun j hj => ?_, ?_⟩
    · obtain rfl : j = 0 := by omega
      exact Int.le_refl _
    · constructor
      · rintro ⟨h1, h2, -⟩; exact ⟨0, by omega, h1, h2⟩
      · rintro ⟨j, hj, h1, h2⟩
        obtain rfl : j = 0 := by omega
        exact ⟨h1, h2, fun g hg => by cases hg⟩
  | succ k ih =>
    intro hk
    obtain ⟨i1, i2, i3⟩ := ih (by omega)
    obtain ⟨a1, a2, a3⟩ := hs (k + 1) (by omega)
    have h1 := hl (k + 1) (by omega)
    have hm0 := hm 0 (k + 1) (by omega) (by omega)
    have hmk := hm k (k + 1) (by omega) (by omega)
    have hE : gapE Ms (k + 1 + 1) = maxI (gapE Ms (k + 1)) (fEnd (frAt Ms (k + 1))) := rfl
    have hf : fEnd (frAt Ms (k + 1)) = (frAt Ms (k + 1)).sa + ((frAt Ms (k + 1)).L.length : Nat) := rfl
    have cov : (∃ j, j < k + 1 + 1 ∧ (frAt Ms j).sa ≤ t ∧ t < fEnd (frAt Ms j)) ↔ ((∃ j, j < k + 1 ∧ (frAt Ms j).sa ≤ t ∧ t < fEnd (frAt Ms j)) ∨ ((frAt Ms (k + 1)).sa ≤ t ∧ t < fEnd (frAt Ms (k + 1)))) := by
      constructor
      · rintro ⟨j, hj, h⟩
        rcases Nat.lt_or_ge j (k + 1) with h2 | h2
        · exact .inl ⟨j, h2, h⟩
        · obtain rfl : j = k + 1 := by omega
          exact .inr h
      · rintro (⟨j, hj, h⟩ | h)
        · exact ⟨j, by omega, h⟩
        · exact ⟨k + 1, by omega, h⟩
    rw [cov, ← i3]
    by_cases hg : gapE Ms (k + 1) < (frAt Ms (k + 1)).sa
    · have eL : gapL Ms (k + 1 + 1) = gapL Ms (k + 1) ++ [[gapE Ms (k + 1), (frAt Ms (k + 1)).sa]] := gapL_yes (by omega) hg
      have eE : gapE Ms (k + 1 + 1) = fEnd (frAt Ms (k + 1)) := by rw [hE]; unfold maxI; rw [if_neg (by omega)]
      rw [eL, eE]
      refine ⟨fun g hg2 => ?_, fun j hj => ?_, ?_⟩
      · rcases List.mem_append.1 hg2 with h | h
        · have := i1 g h; omega
        · obtain rfl := List.mem_singleton.1 h
          show (frAt Ms (k + 1)).sa ≤ _
          omega
      · rcases Nat.lt_or_ge j (k + 1) with h2 | h2
        · have := i2 j h2; omega
        · obtain rfl : j = k + 1 := by omega
          exact Int.le_refl _
      · constructor
        · rintro ⟨p1, p2, p3⟩
          have h3 := p3 _ (List.mem_append_right _ (List.mem_singleton.2 rfl))
          have h3 : t < gapE Ms (k + 1) ∨ (frAt Ms (k + 1)).sa ≤ t := h3
          rcases h3 with h3 | h3
          · exact .inl ⟨p1, h3, fun g hg2 => p3 g (List.mem_append_left _ hg2)⟩
          · exact .inr ⟨h3, p2⟩
        · rintro (⟨p1, p2, p3⟩ | ⟨p1, p2⟩)
          · refine ⟨p1, by omega, fun g hg2 => ?_⟩
            rcases List.mem_append.1 hg2 with h | h
            · exact p3 g h
            · obtain rfl := List.mem_singleton.1 h
              exact .inl p2
          · refine ⟨by omega, p2, fun g hg2 => ?_⟩
            rcases List.mem_append.1 hg2 with h | h
            · have := i1 g h
              exact .inr (by omega)
            · obtain rfl := List.mem_singleton.1 h
              exact .inr p1
    · have eL : gapL Ms (k + 1 + 1) = gapL Ms (k + 1) := gapL_no (by omega)
      rw [eL]
      have hmx : gapE Ms (k + 1) ≤ gapE Ms (k + 1 + 1) ∧ fEnd (frAt Ms (k + 1)) ≤ gapE Ms (k + 1 + 1) ∧ (gapE Ms (k + 1 + 1) = gapE Ms (k + 1) ∨ gapE Ms (k + 1 + 1) = fEnd (frAt Ms (k + 1))) := by
        rw [hE]; unfold maxI; split <;> omega
      obtain ⟨m1, m2, m3⟩ := hmx
      refine ⟨fun g hg2 => by have := i1 g hg2; omega, fun j hj => ?_, ?_⟩
      · rcases Nat.lt_or_ge j (k + 1) with h2 | h2
        · have := i2 j h2; omega
        · obtain rfl : j = k + 1 := by omega
          exact m2
      · constructor
        · rintro ⟨p1, p2, p3⟩
          by_cases h3 : t < gapE Ms (k + 1)
          · exact .inl ⟨p1, h3, p3⟩
          · exact .inr ⟨by omega, by omega⟩
        · rintro (⟨p1, p2, p3⟩ | ⟨p1, p2⟩)
          · exact ⟨p1, by omega, p3⟩
          · exact ⟨by omega, by omega, fun g hg2 => by have := i1 g hg2; exact .inr (by omega)⟩
/-- The end that SpanOf counts. -/
def spE (Ms : List FM) : Nat → Int
  | 0 => fEnd (frAt Ms 0)
  | j + 1 => maxI (spE Ms j) (fEnd (frAt Ms j))
theorem spE_is (Ms : List FM) (h : 0 ≤ fEnd (frAt Ms 0)) (j : Nat) : spE Ms (j + 1) = gapE Ms (j + 1) := by
  induction j with
  | zero =>
    show maxI (fEnd (frAt Ms 0)) (fEnd (frAt Ms 0)) = maxI 0 (fEnd (frAt Ms 0))
    unfold maxI; split <;> split <;> omega
  | succ j ih =>
    show maxI (spE Ms (j + 1)) _ = maxI (gapE Ms (j + 1)) _
    rw [ih]; rfl
theorem atF_any (Ms : List FM) (t : Int) : (atF Ms t).2 = true ↔ ∃ f ∈ Ms, f.sa ≤ t ∧ t < fEnd f := by
  induction Ms with
  | nil => simp [atF]
  | cons f r ih =>
    rw [atF]
    by_cases h : inB (t - f.sa) 0 ((f.L.length : Int) - 1) = true
    · rw [if_pos h]
      obtain ⟨i, h1, h2⟩ := inB_lt h
      simp only [true_iff]
      exact ⟨f, List.mem_cons_self .., by omega, by unfold fEnd; omega⟩
    · rw [if_neg h, ih]
      constructor
      · rintro ⟨g, hg, h2⟩; exact ⟨g, List.mem_cons_of_mem _ hg, h2⟩
      · rintro ⟨g, hg, h2, h3⟩
        rcases List.mem_cons.1 hg with rfl | hg
        · exfalso
          apply h
          unfold fEnd at h3
          unfold inB
          simp
          omega
        · exact ⟨g, hg, h2, h3⟩
theorem atF_none {Ms : List FM} {t : Int} (h : (atF Ms t).2 = false) : (atF Ms t).1 = 0 := by
  induction Ms with
  | nil => rfl
  | cons f r ih =>
    rw [atF] at h ⊢
    by_cases h2 : inB (t - f.sa) 0 ((f.L.length : Int) - 1) = true
    · rw [if_pos h2] at h; cases h
    · rw [if_neg h2] at h ⊢; exact ih h
/-- IN THE SPAN AND IN NO GAP is where a frame has the time. -/
theorem span_is (Ms : List FM) (hs : Fsa Ms) (hl : ∀ j, j < Ms.length → 1 ≤ (frAt Ms j).L.length) (hm : ∀ i j, i < j → j < Ms.length → (frAt Ms i).sa ≤ (frAt Ms j).sa) (hn : 0 < Ms.length) (t : Int) :
    ((decide ((frAt Ms 0).sa ≤ t) && decide (t < spE Ms Ms.length)) && okGs (gapL Ms Ms.length) t (gapL Ms Ms.length).length) = (atF Ms t).2 := by
  obtain ⟨k, hk⟩ : ∃ k, Ms.length = k + 1 := ⟨Ms.length - 1, by omega⟩
  obtain ⟨-, -, i3⟩ := gap_all Ms hs hl hm t k (by omega)
  have h0 : 0 ≤ fEnd (frAt Ms 0) := by obtain ⟨a1, -⟩ := hs 0 hn; unfold fEnd; omega
  rw [Bool.eq_iff_iff, atF_any]
  have e : spE Ms Ms.length = gapE Ms (k + 1) := by rw [hk]; exact spE_is Ms h0 k
  rw [e]
  have e2 : okGs (gapL Ms Ms.length) t (gapL Ms Ms.length).length = true ↔ ∀ g ∈ gapL Ms (k + 1), t < inL g 0 ∨ inL g 1 ≤ t := by
    unfold okGs okG
    rw [List.take_length, List.all_eq_true, hk]
    simp
  simp only [Bool.and_eq_true, decide_eq_true_eq, e2]
  rw [and_assoc, i3]
  constructor
  · rintro ⟨j, hj, h⟩
    exact ⟨_, frAt_mem (by omega), h⟩
  · rintro ⟨f, hf, h⟩
    obtain ⟨j, hj, rfl⟩ := frAt_of_mem hf
    exact ⟨j, by omega, h⟩

/-- Frames as they are drawn: eighths from -4 to 4. -/
def eV (z : Int) : Nat := fop .quo .f32 (floatOfInt .f32 z) 1090519040
def e8 (z : Int) : Bool := fxB 3 (eV z) z && numB (eV z)
theorem e8_all : ((List.range 65).all fun k => e8 ((k : Int) - 32)) = true := by decide +kernel
theorem eV_fx (z : Int) (h0 : -32 ≤ z) (h1 : z ≤ 32) : Fx 3 (eV z) z ∧ numB (eV z) = true := by
  have := List.all_eq_true.1 e8_all (z + 32).toNat (List.mem_range.2 (by omega))
  rw [show (((z + 32).toNat : Nat) : Int) - 32 = z by omega] at this
  unfold e8 at this
  rw [Bool.and_eq_true] at this
  exact ⟨Fx.of this.1, this.2⟩
structure Ev (f : FM) : Prop where
  st : 0 ≤ f.st ∧ f.st ≤ 2
  sa : 0 ≤ f.sa ∧ f.sa ≤ 19
  len : 1 ≤ f.L.length ∧ f.L.length ≤ 11
  num : ∀ x ∈ f.L, ∃ z : Int, x = eV z ∧ -32 ≤ z ∧ z ≤ 32
theorem Ev.ok {f : FM} (h : Ev f) : okF f = true := by
  unfold okF
  have h1 : inB f.st 0 200 = true := by obtain ⟨a, b⟩ := h.st; unfold inB; simp; omega
  have h2 : inB f.sa 0 100000 = true := by obtain ⟨a, b⟩ := h.sa; unfold inB; simp; omega
  have h3 : inB f.L.length 1 128 = true := by obtain ⟨a, b⟩ := h.len; unfold inB; simp; omega
  have h4 : allB numB f.L = true := by
    unfold allB allTo
    rw [List.all_eq_true]
    intro i hi
    rw [List.mem_range] at hi
    have : f.L.getD i 0 ∈ f.L := by rw [List.getD_eq_getElem?_getD, List.getElem?_eq_getElem hi]; exact List.getElem_mem hi
    obtain ⟨z, e, z0, z1⟩ := h.num _ this
    rw [e]; exact (eV_fx z z0 z1).2
  rw [h1, h2, h3, h4]; rfl
theorem areF_of {Fs : List FM} (hl : Fs.length ≤ 12) (h : ∀ f ∈ Fs, Ev f) : areF Fs = true := by
  unfold areF okTo
  rw [Bool.and_eq_true]
  refine ⟨by simpa using hl, List.all_eq_true.2 fun i hi => ?_⟩
  exact (h _ (frAt_mem (List.mem_range.1 hi))).ok
theorem Fsmall_of {Fs : List FM} (hl : Fs.length ≤ 12) (h : ∀ f ∈ Fs, Ev f) : Fsmall Fs := ⟨by omega, fun j hj => by have := (h _ (frAt_mem hj)).len; omega⟩
theorem atF_fx (Ms : List FM) (h : ∀ f ∈ Ms, Ev f) (t : Int) : ∃ z : Int, Fx 3 (atF Ms t).1 z ∧ -32 ≤ z ∧ z ≤ 32 := by
  induction Ms with
  | nil => exact ⟨0, Fx.zero 3, by decide, by decide⟩
  | cons f r ih =>
    rw [atF]
    by_cases h2 : inB (t - f.sa) 0 ((f.L.length : Int) - 1) = true
    · rw [if_pos h2]
      obtain ⟨i, h3, h4⟩ := inB_lt h2
      rw [h3]
      have : f.L.getD i 0 ∈ f.L := by rw [List.getD_eq_getElem?_getD, List.getElem?_eq_getElem h4]; exact List.getElem_mem h4
      obtain ⟨z, e, z0, z1⟩ := (h f (List.mem_cons_self ..)).num _ this
      refine ⟨z, ?_, z0, z1⟩
      show Fx 3 (f.L.getD (i : Int).toNat 0) z
      rw [Int.toNat_natCast, e]
      exact (eV_fx z z0 z1).1
    · rw [if_neg h2]
      exact ih fun f hf => h f (List.mem_cons_of_mem _ hf)
theorem sumJ_fx (Fs : List FM) (h : ∀ f ∈ Fs, Ev f) (t0 : Int) (Ss : List Int) (k j : Nat) (hj : j ≤ 1000) : ∃ z : Int, Fx 3 (sumJ Fs t0 Ss k j).1 z ∧ z.natAbs ≤ 32 * j := by
  induction j with
  | zero => exact ⟨0, Fx.zero 3, by simp⟩
  | succ j ih =>
    obtain ⟨z, h1, h2⟩ := ih (by omega)
    cases hq : (atF (ofF Fs (inL Ss j)) (t0 + k)).2 with
    | true =>
      rw [sumJ_yes hq]
      obtain ⟨y, y1, y2, y3⟩ := atF_fx (ofF Fs (inL Ss j)) (fun f hf => h f (ofF_st hf).2) (t0 + k)
      exact ⟨z + y, Fx.fopAdd h1 y1 (by decide) (by omega), by omega⟩
    | false =>
      rw [sumJ_no hq]
      exact ⟨z, h1, by omega⟩
theorem Fx.same {k r q x : Nat} {z : Int} (hx : Fx k x z) (h1 : FV .f32 r x) (h2 : FV .f32 q x) : FloatKind.f32.format.order r q = some .eq := by
  rw [FV.order h1 h2]
  have := Fx.order hx hx
  rw [show compare z z = Ordering.eq by simp] at this
  exact this
end Go.Proofs.Ytibojlpeaolfbaa

/- Bounds: the text Val. -/
namespace Go.Proofs.Ytibojlpeaolfbaa
end Go.Proofs.Ytibojlpeaolfbaa

/- Plain: a trace that is later is most alike its pilot at its own shift. -/
namespace Go.Proofs.Ytibojlpeaolfbaa
open Go

/-- A sum of products of two lists, one shifted against the other. -/
def corI (A B : List Int) (d : Int) : Nat → Int
  | 0 => 0
  | k + 1 => if inB ((k : Int) + d) 0 ((B.length : Int) - 1) then corI A B d k + A.getD k 0 * B.getD ((k : Int) + d).toNat 0 else corI A B d k
def padI (a : List Int) : List Int := a ++ [0, 0, 0, 0]
def latI (a : List Int) (by_ : Nat) : List Int := (List.range 10).map fun k => if by_ ≤ k then (padI a).getD (k - by_) 0 else 0
theorem sq_nn (x : Int) : 0 ≤ x * x := by
  rcases Int.le_total 0 x with h | h
  · exact Int.mul_nonneg h h
  · exact Int.mul_nonneg_of_nonpos_of_nonpos h h
theorem sq_two (x y : Int) : 0 ≤ x * x - 2 * (x * y) + y * y := by
  have h := sq_nn (x - y)
  have e : (x - y) * (x - y) = x * x - 2 * (x * y) + y * y := by
    rw [Int.sub_mul, Int.mul_sub, Int.mul_sub, Int.mul_comm y x]; omega
  rw [e] at h; exact h
theorem sq_zero {x : Int} (h : x * x ≤ 0) : x = 0 := by
  have h1 : x * x = 0 := by have := sq_nn x; omega
  rcases Int.mul_eq_zero.1 h1 with h | h <;> exact h
def enI (a b c d e f : Int) : Int := a * a + b * b + c * c + d * d + e * e + f * f
theorem shift1 (a b c d e f : Int) (h : 0 < enI a b c d e f) : a * b + b * c + c * d + d * e + e * f < enI a b c d e f := by
  unfold enI at *
  have q1 := sq_two a b; have q2 := sq_two b c; have q3 := sq_two c d; have q4 := sq_two d e; have q5 := sq_two e f
  have n1 := sq_nn a; have n6 := sq_nn f
  by_cases hc : a * b + b * c + c * d + d * e + e * f < a * a + b * b + c * c + d * d + e * e + f * f
  · exact hc
  · exfalso
    have ha : a = 0 := sq_zero (by omega)
    subst ha
    simp only [Int.zero_mul] at *
    have hb : b = 0 := sq_zero (by omega)
    subst hb
    simp only [Int.zero_mul, Int.mul_zero] at *
    have hb : c = 0 := sq_zero (by omega)
    subst hb
    simp only [Int.zero_mul, Int.mul_zero] at *
    have hb : d = 0 := sq_zero (by omega)
    subst hb
    simp only [Int.zero_mul, Int.mul_zero] at *
    have hb : e = 0 := sq_zero (by omega)
    subst hb
    simp only [Int.zero_mul, Int.mul_zero] at *
    omega
theorem shift2 (a b c d e f : Int) (h : 0 < enI a b c d e f) : a * c + b * d + c * e + d * f < enI a b c d e f := by
  unfold enI at *
  have q1 := sq_two a c; have q2 := sq_two b d; have q3 := sq_two c e; have q4 := sq_two d f
  have n1 := sq_nn a; have n2 := sq_nn b; have n5 := sq_nn e; have n6 := sq_nn f
  by_cases hc : a * c + b * d + c * e + d * f < a * a + b * b + c * c + d * d + e * e + f * f
  · exact hc
  · exfalso
    have ha : a = 0 := sq_zero (by omega)
    have hb : b = 0 := sq_zero (by omega)
    subst ha hb
    simp only [Int.zero_mul] at *
    have hb : c = 0 := sq_zero (by omega)
    have hd : d = 0 := sq_zero (by omega)
    subst hb hd
    simp only [Int.zero_mul, Int.mul_zero] at *
    omega
theorem shift3 (a b c d e f : Int) (h : 0 < enI a b c d e f) : a * d + b * e + c * f < enI a b c d e f := by
  unfold enI at *
  have q1 := sq_two a d; have q2 := sq_two b e; have q3 := sq_two c f
  have n1 := sq_nn a; have n2 := sq_nn b; have n3 := sq_nn c; have n4 := sq_nn d; have n5 := sq_nn e; have n6 := sq_nn f
  omega
theorem shift4 (a b c d e f : Int) (h : 0 < enI a b c d e f) : a * e + b * f < enI a b c d e f := by
  unfold enI at *
  have q1 := sq_two a e; have q2 := sq_two b f
  have n1 := sq_nn a; have n2 := sq_nn b; have n3 := sq_nn c; have n4 := sq_nn d; have n5 := sq_nn e; have n6 := sq_nn f
  omega
theorem shift5 (a b c d e f : Int) (h : 0 < enI a b c d e f) : a * f < enI a b c d e f := by
  unfold enI at *
  have q1 := sq_two a f
  have n1 := sq_nn a; have n2 := sq_nn b; have n3 := sq_nn c; have n4 := sq_nn d; have n5 := sq_nn e; have n6 := sq_nn f
  omega
theorem en_nn (a b c d e f : Int) : 0 ≤ enI a b c d e f := by
  unfold enI
  have n1 := sq_nn a; have n2 := sq_nn b; have n3 := sq_nn c; have n4 := sq_nn d; have n5 := sq_nn e; have n6 := sq_nn f
  omega
theorem cor_at (a b c d e f : Int) (t i : Nat) (ht : t < 5) (hi : i < 13) :
    corI (padI [a, b, c, d, e, f]) (latI [a, b, c, d, e, f] t) ((i : Int) - 6) 10 = (if i = t + 6 then enI a b c d e f else if i = t + 7 ∨ i + 1 = t + 6 then a * b + b * c + c * d + d * e + e * f else
      if i = t + 8 ∨ i + 2 = t + 6 then a * c + b * d + c * e + d * f else if i = t + 9 ∨ i + 3 = t + 6 then a * d + b * e + c * f else if i = t + 10 ∨ i + 4 = t + 6 then a * e + b * f else
      if i = t + 11 ∨ i + 5 = t + 6 then a * f else 0) := by
  have ht' : t = 0 ∨ t = 1 ∨ t = 2 ∨ t = 3 ∨ t = 4 := by omega
  have hi' : i = 0 ∨ i = 1 ∨ i = 2 ∨ i = 3 ∨ i = 4 ∨ i = 5 ∨ i = 6 ∨ i = 7 ∨ i = 8 ∨ i = 9 ∨ i = 10 ∨ i = 11 ∨ i = 12 := by omega
  rcases ht' with rfl | rfl | rfl | rfl | rfl <;> rcases hi' with rfl | rfl | rfl | rfl | rfl | rfl | rfl | rfl | rfl | rfl | rfl | rfl | rfl <;>
    simp [corI, padI, latI, inB, enI, List.range, List.range.loop, Int.mul_comm] <;> omega
/-- The index of the greatest number, the first one of several. -/
def bestF (L : List Nat) : Nat → Option Nat
  | 0 => none
  | j + 1 => match bestF L j with
    | none => if FloatKind.f32.format.order (L.getD j 0) (L.getD j 0) == some Ordering.eq then some j else none
    | some o => if FloatKind.f32.format.order (L.getD j 0) (L.getD o 0) == some Ordering.gt then some j else some o
theorem bestF_is (L : List Nat) (k : Nat) (v : Nat → Int) (n : Nat) (h : ∀ i, i < n → Fx k (L.getD i 0) (v i)) (j : Nat) (hj : j < n) :
    ∃ o, bestF L (j + 1) = some o ∧ o ≤ j ∧ (∀ i, i ≤ j → v i ≤ v o) ∧ ∀ i, i < o → v i < v o := by
  induction j with
  | zero =>
    refine ⟨0, ?_, Nat.le_refl _, fun i hi => ?_, fun i hi => by omega⟩
    · have e : FloatKind.f32.format.order (L.getD 0 0) (L.getD 0 0) = some (compare (v 0) (v 0)) := Fx.order (h 0 hj) (h 0 hj)
      rw [bestF, bestF, e]
      simp
    · obtain rfl : i = 0 := by omega
      exact Int.le_refl _
  | succ j ih =>
    obtain ⟨o, h1, h2, h3, h4⟩ := ih (by omega)
    have e : FloatKind.f32.format.order (L.getD (j + 1) 0) (L.getD o 0) = some (compare (v (j + 1)) (v o)) := Fx.order (h (j + 1) hj) (h o (by omega))
    rw [bestF, h1]
    simp only [e]
    by_cases hc : v o < v (j + 1)
    · rw [Int.compare_eq_gt.2 hc]
      refine ⟨j + 1, rfl, Nat.le_refl _, fun i hi => ?_, fun i hi => ?_⟩
      · by_cases h5 : i ≤ j
        · have := h3 i h5; omega
        · obtain rfl : i = j + 1 := by omega
          exact Int.le_refl _
      · have := h3 i (by omega); omega
    · refine ⟨o, ?_, by omega, fun i hi => ?_, h4⟩
      · rcases Int.lt_or_eq_of_le (Int.not_lt.1 hc) with h5 | h5
        · rw [Int.compare_eq_lt.2 h5]; rfl
        · rw [h5]; simp
      · by_cases h5 : i ≤ j
        · exact h3 i h5
        · obtain rfl : i = j + 1 := by omega
          omega
/-- The sums of products, as the program makes them. -/
def corS (A B : List Nat) (d : Int) : Nat → Nat
  | 0 => 0
  | k + 1 => if inB ((k : Int) + d) 0 ((B.length : Int) - 1) then fop .add .f32 (corS A B d k) (fop .mul .f32 (A.getD k 0) (B.getD ((k : Int) + d).toNat 0)) else corS A B d k
theorem corS_fx (A B : List Nat) (a b : List Int) (d : Int) (hb : B.length = b.length) (hA : ∀ k, Fx 2 (A.getD k 0) (a.getD k 0) ∧ -8 ≤ a.getD k 0 ∧ a.getD k 0 ≤ 8) (hB : ∀ k, Fx 2 (B.getD k 0) (b.getD k 0) ∧ -8 ≤ b.getD k 0 ∧ b.getD k 0 ≤ 8) (n : Nat) (hn : n ≤ 1000) :
    Fx 4 (corS A B d n) (corI a b d n) ∧ -(64 * (n : Int)) ≤ corI a b d n ∧ corI a b d n ≤ 64 * (n : Int) := by
  induction n with
  | zero => exact ⟨Fx.zero 4, by unfold corI; omega, by unfold corI; omega⟩
  | succ n ih =>
    obtain ⟨i1, i2, i3⟩ := ih (by omega)
    rw [corS, corI, hb]
    cases inB ((n : Int) + d) 0 ((b.length : Int) - 1) with
    | false =>
      simp only [Bool.false_eq_true, if_false]
      exact ⟨i1, by omega, by omega⟩
    | true =>
      simp only [if_true]
      obtain ⟨f1, l1, u1⟩ := hA n
      obtain ⟨f2, l2, u2⟩ := hB ((n : Int) + d).toNat
      generalize a.getD n 0 = x at *
      generalize b.getD ((n : Int) + d).toNat 0 = y at *
      have hxy : -64 ≤ x * y ∧ x * y ≤ 64 := by
        have h1 : (x * y).natAbs ≤ 64 := by
          rw [Int.natAbs_mul]
          exact Nat.le_trans (Nat.mul_le_mul (show x.natAbs ≤ 8 by omega) (show y.natAbs ≤ 8 by omega)) (by decide)
        omega
      have m1 : Fx 4 _ (x * y) := Fx.fopMul f1 f2 (by decide) (by omega)
      exact ⟨Fx.fopAdd i1 m1 (by decide) (by omega), by omega, by omega⟩
end Go.Proofs.Ytibojlpeaolfbaa

/- Plain: the best shift of what FnPicks draws. -/
namespace Go.Proofs.Ytibojlpeaolfbaa
open Go

/-- A quarter of an integer, as the draws make it. -/
def qv (z : Int) : Nat := fop .quo .f32 (floatOfInt .f32 z) 1082130432
theorem qv_fx (z : Int) (h0 : -8 ≤ z) (h1 : z ≤ 8) : Fx 2 (qv z) z ∧ Cls .f32 (qv z) := by
  have hz : z = -8 ∨ z = -7 ∨ z = -6 ∨ z = -5 ∨ z = -4 ∨ z = -3 ∨ z = -2 ∨ z = -1 ∨ z = 0 ∨ z = 1 ∨ z = 2 ∨ z = 3 ∨ z = 4 ∨ z = 5 ∨ z = 6 ∨ z = 7 ∨ z = 8 := by omega
  refine ⟨?_, fop_cls⟩
  rcases hz with rfl | rfl | rfl | rfl | rfl | rfl | rfl | rfl | rfl | rfl | rfl | rfl | rfl | rfl | rfl | rfl | rfl <;> exact Fx.of (by decide +kernel)
/-- The numbers some places further on. -/
def latF (P : List Nat) (t : Int) : List Nat := tab (fun k => if inB ((k : Int) + t) 0 ((P.length : Int) - 1) then P.getD ((k : Int) + t).toNat 0 else 0) P.length
def corL (A B : List Nat) (m : Nat) : List Nat := tab (fun i => corS A B ((i : Int) - m) A.length) (2 * m + 1)
/-- The sum of the squares. -/
def enS (L : List Nat) : Nat → Nat
  | 0 => 0
  | k + 1 => fop .add .f32 (enS L k) (fop .mul .f32 (L.getD k 0) (L.getD k 0))
/-- Six drawn numbers. -/
structure Six where
  a : Int
  b : Int
  c : Int
  d : Int
  e : Int
  f : Int
def Six.l (s : Six) : List Int := [s.a, s.b, s.c, s.d, s.e, s.f]
def Six.ok (s : Six) : Prop := ∀ z ∈ s.l, -8 ≤ z ∧ z ≤ 8
def Six.F (s : Six) : List Nat := s.l.map qv
def Six.P (s : Six) : List Nat := s.F ++ [0, 0, 0, 0]
def Six.en (s : Six) : Int := enI s.a s.b s.c s.d s.e s.f
theorem Six.pad (s : Six) (h : s.ok) (k : Nat) : Fx 2 (s.P.getD k 0) ((padI s.l).getD k 0) ∧ -8 ≤ (padI s.l).getD k 0 ∧ (padI s.l).getD k 0 ≤ 8 := by
  have key : ∀ z, z ∈ s.l → Fx 2 (qv z) z ∧ -8 ≤ z ∧ z ≤ 8 := fun z hz => ⟨(qv_fx z (h z hz).1 (h z hz).2).1, h z hz⟩
  have z0 : Fx 2 0 0 ∧ (-8 : Int) ≤ 0 ∧ (0 : Int) ≤ 8 := ⟨Fx.zero 2, by decide, by decide⟩
  obtain ⟨a, b, c, d, e, f⟩ := s
  match k with
  | 0 => exact key a (by simp [Six.l])
  | 1 => exact key b (by simp [Six.l])
  | 2 => exact key c (by simp [Six.l])
  | 3 => exact key d (by simp [Six.l])
  | 4 => exact key e (by simp [Six.l])
  | 5 => exact key f (by simp [Six.l])
  | 6 => exact z0
  | 7 => exact z0
  | 8 => exact z0
  | 9 => exact z0
  | k + 10 => exact z0
theorem latF_fx (s : Six) (h : s.ok) (t : Nat) (ht : t < 5) (k : Nat) : Fx 2 ((latF s.P (-(t : Int))).getD k 0) ((latI s.l t).getD k 0) ∧ -8 ≤ (latI s.l t).getD k 0 ∧ (latI s.l t).getD k 0 ≤ 8 := by
  have z0 : Fx 2 0 0 ∧ (-8 : Int) ≤ 0 ∧ (0 : Int) ≤ 8 := ⟨Fx.zero 2, by decide, by decide⟩
  have hl : s.P.length = 10 := rfl
  by_cases hk : k < 10
  · have e1 : (latF s.P (-(t : Int))).getD k 0 = if inB ((k : Int) + -(t : Int)) 0 ((s.P.length : Int) - 1) then s.P.getD ((k : Int) + -(t : Int)).toNat 0 else 0 := tab_getD _ _ _ (by rw [hl]; exact hk)
    have e2 : (latI s.l t).getD k 0 = if t ≤ k then (padI s.l).getD (k - t) 0 else 0 := by
      simp [latI, List.getD_eq_getElem?_getD, List.getElem?_map, List.getElem?_range hk]
    rw [e1, e2, hl]
    by_cases htk : t ≤ k
    · have e3 : inB ((k : Int) + -(t : Int)) 0 (((10 : Nat) : Int) - 1) = true := by unfold inB; simp; omega
      rw [e3, if_pos rfl, if_pos htk]
      have e4 : ((k : Int) + -(t : Int)).toNat = k - t := by omega
      rw [e4]
      exact s.pad h _
    · have e3 : inB ((k : Int) + -(t : Int)) 0 (((10 : Nat) : Int) - 1) = false := by unfold inB; simp; omega
      rw [e3, if_neg (by decide), if_neg htk]
      exact z0
  · have e1 : (latF s.P (-(t : Int))).getD k 0 = 0 := by
      rw [List.getD_eq_getElem?_getD, List.getElem?_eq_none (by unfold latF; rw [tab_length, hl]; omega)]; rfl
    have e2 : (latI s.l t).getD k 0 = 0 := by
      rw [List.getD_eq_getElem?_getD, List.getElem?_eq_none (by simp [latI]; omega)]; rfl
    rw [e1, e2]
    exact z0
theorem Six.enF (s : Six) (h : s.ok) : Fx 4 (enS s.F 6) s.en := by
  obtain ⟨a, b, c, d, e, f⟩ := s
  have key : ∀ z, z ∈ (Six.mk a b c d e f).l → Fx 4 (fop .mul .f32 (qv z) (qv z)) (z * z) ∧ 0 ≤ z * z ∧ z * z ≤ 64 := fun z hz => by
    have hz2 := h z hz
    have hb : z * z ≤ 64 := by
      have : (z * z).natAbs ≤ 64 := by
        rw [Int.natAbs_mul]
        exact Nat.le_trans (Nat.mul_le_mul (show z.natAbs ≤ 8 by omega) (show z.natAbs ≤ 8 by omega)) (by decide)
      omega
    have hn := sq_nn z
    exact ⟨Fx.fopMul (qv_fx z hz2.1 hz2.2).1 (qv_fx z hz2.1 hz2.2).1 (by decide) (by omega), hn, hb⟩
  obtain ⟨ka, a0, a1⟩ := key a (by simp [Six.l])
  obtain ⟨kb, b0, b1⟩ := key b (by simp [Six.l])
  obtain ⟨kc, c0, c1⟩ := key c (by simp [Six.l])
  obtain ⟨kd, d0, d1⟩ := key d (by simp [Six.l])
  obtain ⟨ke, e0, e1⟩ := key e (by simp [Six.l])
  obtain ⟨kf, f0, f1⟩ := key f (by simp [Six.l])
  have s1 := Fx.fopAdd (Fx.zero 4) ka (by decide) (by omega)
  have s2 := Fx.fopAdd s1 kb (by decide) (by omega)
  have s3 := Fx.fopAdd s2 kc (by decide) (by omega)
  have s4 := Fx.fopAdd s3 kd (by decide) (by omega)
  have s5 := Fx.fopAdd s4 ke (by decide) (by omega)
  have s6 := Fx.fopAdd s5 kf (by decide) (by omega)
  have e : Six.en ⟨a, b, c, d, e, f⟩ = 0 + a * a + b * b + c * c + d * d + e * e + f * f := by
    show enI a b c d e f = _
    unfold enI; omega
  rw [e]
  exact s6
theorem corL_fx (s : Six) (h : s.ok) (t : Nat) (ht : t < 5) (i : Nat) (hi : i < 13) :
    Fx 4 ((corL s.P (latF s.P (-(t : Int))) 6).getD i 0) (corI (padI s.l) (latI s.l t) ((i : Int) - 6) 10) := by
  have e : (corL s.P (latF s.P (-(t : Int))) 6).getD i 0 = corS s.P (latF s.P (-(t : Int))) ((i : Int) - (6 : Nat)) s.P.length := tab_getD _ _ _ hi
  rw [e]
  exact (corS_fx s.P (latF s.P (-(t : Int))) (padI s.l) (latI s.l t) ((i : Int) - 6) (by unfold latF latI; rw [tab_length]; simp; rfl) (fun k => s.pad h k) (fun k => latF_fx s h t ht k) 10 (by decide)).1
/-- The best shift: the trace's own, if there is any energy; else the first one. The value is the energy. -/
theorem best_is (s : Six) (h : s.ok) (t : Nat) (ht : t < 5) :
    ∃ o, bestF (corL s.P (latF s.P (-(t : Int))) 6) 13 = some o ∧ o < 13 ∧ Fx 4 ((corL s.P (latF s.P (-(t : Int))) 6).getD o 0) s.en ∧ (0 < s.en → o = t + 6) := by
  obtain ⟨o, h1, h2, h3, h4⟩ := bestF_is _ 4 (fun i => corI (padI s.l) (latI s.l t) ((i : Int) - 6) 10) 13 (fun i hi => corL_fx s h t ht i hi) 12 (by decide)
  have hv : ∀ i, i < 13 → _ := fun i hi => cor_at s.a s.b s.c s.d s.e s.f t i ht hi
  have hen : s.en = enI s.a s.b s.c s.d s.e s.f := rfl
  have hl : s.l = [s.a, s.b, s.c, s.d, s.e, s.f] := rfl
  rw [hl] at h3 h4
  have hm := hv (t + 6) (by omega)
  rw [if_pos rfl] at hm
  have key : ∀ i, i < 13 → i ≠ t + 6 → 0 < s.en → corI (padI [s.a, s.b, s.c, s.d, s.e, s.f]) (latI [s.a, s.b, s.c, s.d, s.e, s.f] t) ((i : Int) - 6) 10 < s.en := fun i hi hne hp => by
    rw [hv i hi, if_neg hne, hen]
    rw [hen] at hp
    have k1 := shift1 _ _ _ _ _ _ hp
    have k2 := shift2 _ _ _ _ _ _ hp
    have k3 := shift3 _ _ _ _ _ _ hp
    have k4 := shift4 _ _ _ _ _ _ hp
    have k5 := shift5 _ _ _ _ _ _ hp
    repeat' split
    all_goals first | exact k1 | exact k2 | exact k3 | exact k4 | exact k5 | exact hp
  by_cases hp : 0 < s.en
  · have ho : o = t + 6 := by
      by_cases he : o = t + 6
      · exact he
      · have a1 := key o (by omega) he hp
        have a2 := h3 (t + 6) (by omega)
        replace a2 : corI (padI [s.a, s.b, s.c, s.d, s.e, s.f]) (latI [s.a, s.b, s.c, s.d, s.e, s.f] t) (((t + 6 : Nat) : Int) - 6) 10 ≤ corI (padI [s.a, s.b, s.c, s.d, s.e, s.f]) (latI [s.a, s.b, s.c, s.d, s.e, s.f] t) ((o : Int) - 6) 10 := a2
        rw [hm] at a2
        rw [hen] at a1
        omega
    refine ⟨o, h1, by omega, ?_, fun _ => ho⟩
    have := corL_fx s h t ht o (by omega)
    rw [hl, ho, hm] at this
    rw [ho]
    exact this
  · refine ⟨o, h1, by omega, ?_, fun h => absurd h hp⟩
    have hnn := en_nn s.a s.b s.c s.d s.e s.f
    have he0 : s.en = 0 := by omega
    rw [he0]
    have hz : enI s.a s.b s.c s.d s.e s.f = 0 := he0
    unfold enI at hz
    have n1 := sq_nn s.a; have n2 := sq_nn s.b; have n3 := sq_nn s.c; have n4 := sq_nn s.d; have n5 := sq_nn s.e; have n6 := sq_nn s.f
    have za : s.a = 0 := sq_zero (by omega)
    have zb : s.b = 0 := sq_zero (by omega)
    have zc : s.c = 0 := sq_zero (by omega)
    have zd : s.d = 0 := sq_zero (by omega)
    have ze : s.e = 0 := sq_zero (by omega)
    have zf : s.f = 0 := sq_zero (by omega)
    have := corL_fx s h t ht o (by omega)
    rw [hl, hv o (by omega), za, zb, zc, zd, ze, zf] at this
    simpa [enI] using this
end Go.Proofs.Ytibojlpeaolfbaa

/- What has turned: the text FrT. -/
namespace Go.Proofs.Ytibojlpeaolfbaa
end Go.Proofs.Ytibojlpeaolfbaa

/- Walks: the draws. -/
namespace Go.Proofs.Ytibojlpeaolfbaa
open Go Go.RowKit

/-- The source of the draws: the bytes, the place, the sequence. -/
def Src (w : World) (g : Nat) (a : Option Addr) (n c : Nat) (t : Int) : Prop :=
  ∃ sd : Int, w.heap[g]? = some (.cells #[.slice a n c, .int .i64 t, .int .u64 sd] 118 (0, 0)) ∧ 0 ≤ sd ∧ sd < 18446744073709551616
theorem low_byte (x : Int) (h : 0 ≤ x) (h2 : x < 18446744073709551616) : 0 ≤ bits BinOp.and IntKind.u64 x 255 ∧ bits BinOp.and IntKind.u64 x 255 < 256 := by
  obtain ⟨m, rfl⟩ : ∃ m : Nat, x = m := ⟨x.toNat, by omega⟩
  have e : bits BinOp.and IntKind.u64 (m : Int) 255 = ((m &&& 255 : Nat) : Int) := bits_and_u64_nat m 255 (by omega) (by decide)
  have h3 : m &&& 255 ≤ 255 := Nat.and_le_right
  rw [e]
  omega
theorem u64_wrap (x : Int) : 0 ≤ IntKind.u64.wrap x ∧ IntKind.u64.wrap x < 18446744073709551616 := by
  have e : IntKind.u64.wrap x = x % 18446744073709551616 := by simp [IntKind.wrap, IntKind.signed, IntKind.bits]
  rw [e]; omega

set_option maxRecDepth 100000 in
set_option maxHeartbeats 3200000 in
theorem next_any (w : World) (g : Nat) (a : Option Addr) (n c : Nat) (t : Int) (hs : Src w g a n c t) (hy : RdY w (.slice a n c) n) (hn : n ≤ 1048576) (ht : 0 ≤ t) (ht2 : t ≤ 1000000) :
    Calls Try.prog 86 #[.pointer (some ⟨g, 0, none⟩)] w fun e w' => ∃ v : Int, e = .returned (.int .i64 v) ∧ 0 ≤ v ∧ v < 256 ∧ Src w' g a n c (t + 1) ∧ Chg w w' (fun k => k = g) := by
  obtain ⟨sd, hb, hsd0, hsd1⟩ := hs
  obtain ⟨a2, c2, hv, hc, hcell⟩ := hy.opened
  obtain ⟨rfl, rfl⟩ : a = a2 ∧ c = c2 := by cases hv; exact ⟨rfl, rfl⟩
  have HB := Lib.hid hb
  clear hv hy
  by_cases hlt : t < (n : Int)
  · obtain ⟨i, rfl⟩ : ∃ i : Nat, t = i := ⟨t.toNat, by omega⟩
    obtain ⟨b, o, rfl, hlb, y, ⟨hy0, hy1⟩, hy⟩ := hcell i (by omega)
    obtain ⟨k0, k1, k2, f0, f1, f2⟩ := blk3 hb
    clear hcell hb
    go_enter Try.func86, Try.ntmps86
    go_wp2
    refine region_rel_all (by kernel_rfl) (by kernel_rfl) (Drawn w) (fun _ _ _ => False) ⟨1, rfl⟩ ?_
    repeat (refine wpRel_draw rfl rfl (fun nq K hK => ?_); go_wp2)
    refine wpRel_nil ?_
    rintro wd ⟨nd, hwd⟩
    replace k0 : wd.cell? ⟨g, 0, none⟩ = some (.slice (some ⟨b, o, none⟩) n c) := by rw [hwd]; exact k0
    replace k1 : wd.cell? ⟨g, 1, none⟩ = some (.int .i64 (i : Int)) := by rw [hwd]; exact k1
    replace k2 : wd.cell? ⟨g, 2, none⟩ = some (.int .u64 sd) := by rw [hwd]; exact k2
    replace hy : wd.cell? ⟨b, o + i, none⟩ = some (.int .u8 y) := by rw [hwd]; exact hy
    have HB1 : Hid (wd.heap[g]? = some (.cells #[.slice (some ⟨b, o, none⟩) n c, .int .i64 (i : Int), .int .u64 sd] 118 (0, 0))) := Lib.hid (by rw [hwd]; exact HB.out)
    have HC1 : Hid (Chg w wd (fun k => k = g)) := Lib.hid (by rw [hwd]; exact (Chg.refl _ _).drewN _)
    clear hwd HB f0 f1 f2
    go_wp2
    refine region_rel_tail 11 (by kernel_rfl) (by kernel_rfl) (Drawn wd) (fun _ _ _ => False) ⟨1, rfl⟩ ?_
    simp only [List.take_succ_cons, List.take_zero, List.drop_succ_cons, List.drop_zero]
    repeat (refine wpRel_draw rfl rfl (fun nq K hK => ?_); go_wp2)
    refine wpRel_nil ?_
    rintro we ⟨ne, hwe⟩
    have HB2 : we.heap[g]? = some (.cells #[.slice (some ⟨b, o, none⟩) n c, .int .i64 (i : Int), .int .u64 sd] 118 (0, 0)) := by rw [hwe]; exact HB1.out
    have HC2 : Hid (Chg w we (fun k => k = g)) := Lib.hid (by rw [hwe]; exact HC1.out.drewN _)
    obtain ⟨k0, k1, k2, f0, f1, f2⟩ := blk3 HB2
    clear hwe HB1 HC1 hy
    go_wp2
    have P := (Put.one HB2 1 (.int .i64 ((i : Int) + 1))).next 2 (.int .u64 (IntKind.u64.wrap (IntKind.u64.wrap (IntKind.u64.wrap (sd * 6364136223846793005) + y) + 1442695040888963407)))
    obtain ⟨hw0, hw1⟩ := u64_wrap (IntKind.u64.wrap (IntKind.u64.wrap (sd * 6364136223846793005) + y) + 1442695040888963407)
    generalize IntKind.u64.wrap (IntKind.u64.wrap (IntKind.u64.wrap (sd * 6364136223846793005) + y) + 1442695040888963407) = sd2 at *
    generalize (we.setCell ⟨g, 1, none⟩ (.int .i64 ((i : Int) + 1))).setCell ⟨g, 2, none⟩ (.int .u64 sd2) = wf at *
    have HS : Hid (Src wf g (some ⟨b, o, none⟩) n c ((i : Int) + 1)) := Lib.hid ⟨sd2, (P.cs (cs' := #[.slice (some ⟨b, o, none⟩) n c, .int .i64 ((i : Int) + 1), .int .u64 sd2]) (by simp)).heap, hw0, hw1⟩
    have HC3 : Hid (Chg w wf (fun k => k = g)) := Lib.hid (HC2.out.trans P.chg)
    obtain ⟨k0, k1, k2, f0, f1, f2⟩ := blk3 (P.cs (cs' := #[.slice (some ⟨b, o, none⟩) n c, .int .i64 ((i : Int) + 1), .int .u64 sd2]) (by simp)).heap
    clear P HB2 HC2
    refine region_rel_all (by kernel_rfl) (by kernel_rfl) (Drawn wf) (fun _ _ _ => False) ⟨1, rfl⟩ ?_
    repeat (refine wpRel_draw rfl rfl (fun nq K hK => ?_); go_wp2)
    refine wpRel_nil ?_
    rintro wh ⟨nh, hwh⟩
    have Hwh := Lib.hid hwh
    clear hwh
    go_wp2
    go_ret
    exact ⟨_, rfl, hy0, hy1, by rw [Hwh.out]; exact HS.out, by rw [Hwh.out]; exact HC3.out.drewN _⟩

  · obtain ⟨k0, k1, k2, f0, f1, f2⟩ := blk3 hb
    clear hcell hb
    go_enter Try.func86, Try.ntmps86
    go_wp2
    refine region_rel_all (by kernel_rfl) (by kernel_rfl) (Drawn w) (fun _ _ _ => False) ⟨1, rfl⟩ ?_
    repeat (refine wpRel_draw rfl rfl (fun nq K hK => ?_); go_wp2)
    refine wpRel_nil ?_
    rintro we ⟨ne, hwe⟩
    have HB2 : we.heap[g]? = some (.cells #[.slice a n c, .int .i64 t, .int .u64 sd] 118 (0, 0)) := by rw [hwe]; exact HB.out
    have HC2 : Hid (Chg w we (fun k => k = g)) := Lib.hid (by rw [hwe]; exact (Chg.refl _ _).drewN _)
    obtain ⟨k0, k1, k2, f0, f1, f2⟩ := blk3 HB2
    clear hwe HB
    go_wp2
    have P := (Put.one HB2 1 (.int .i64 (t + 1))).next 2 (.int .u64 (IntKind.u64.wrap (IntKind.u64.wrap (IntKind.u64.wrap (sd * 6364136223846793005)) + 1442695040888963407)))
    obtain ⟨hw0, hw1⟩ := u64_wrap (IntKind.u64.wrap (IntKind.u64.wrap (sd * 6364136223846793005)) + 1442695040888963407)
    generalize IntKind.u64.wrap (IntKind.u64.wrap (IntKind.u64.wrap (sd * 6364136223846793005)) + 1442695040888963407) = sd2 at *
    generalize (we.setCell ⟨g, 1, none⟩ (.int .i64 (t + 1))).setCell ⟨g, 2, none⟩ (.int .u64 sd2) = wf at *
    have hb2 := (P.cs (cs' := #[.slice a n c, .int .i64 (t + 1), .int .u64 sd2]) (by simp)).heap
    have HS : Hid (Src wf g a n c (t + 1)) := Lib.hid ⟨sd2, hb2, hw0, hw1⟩
    have HC3 : Hid (Chg w wf (fun k => k = g)) := Lib.hid (HC2.out.trans P.chg)
    have HB3 := Lib.hid hb2
    obtain ⟨k0, k1, k2, f0, f1, f2⟩ := blk3 hb2
    clear P HB2 HC2 hb2
    refine region_rel_all (by kernel_rfl) (by kernel_rfl) (Drawn wf) (fun _ _ _ => False) ⟨1, rfl⟩ ?_
    repeat (refine wpRel_draw rfl rfl (fun nq K hK => ?_); go_wp2)
    refine wpRel_nil ?_
    rintro wh ⟨nh, hwh⟩
    have Hwh := Lib.hid hwh
    obtain ⟨k0, k1, k2, f0, f1, f2⟩ := blk3 (w := wh) (by rw [hwh]; exact HB3.out)
    clear hwh HB3
    go_wp2
    go_ret
    obtain ⟨hv0, hv1⟩ := low_byte (sd2 / 1099511627776) (Int.ediv_nonneg hw0 (by decide)) (by omega)
    have hv2 : wrap64 (bits BinOp.and IntKind.u64 (sd2 / 1099511627776) 255) = bits BinOp.and IntKind.u64 (sd2 / 1099511627776) 255 := by unfold wrap64; omega
    exact ⟨bits BinOp.and IntKind.u64 (sd2 / 1099511627776) 255, congrArg (fun v => Ending.returned (Value.int .i64 v)) hv2, hv0, hv1, by rw [Hwh.out]; exact HS.out, by rw [Hwh.out]; exact HC3.out.drewN _⟩

set_option maxRecDepth 100000 in
set_option maxHeartbeats 1600000 in
theorem pick_any (w : World) (g : Nat) (a : Option Addr) (n c : Nat) (t m : Int) (hs : Src w g a n c t) (hy : RdY w (.slice a n c) n) (hn : n ≤ 1048576) (ht : 0 ≤ t) (ht2 : t ≤ 1000000) (hm : 2 ≤ m) (hm2 : m ≤ 200) :
    Calls Try.prog 48 #[.pointer (some ⟨g, 0, none⟩), .int .i64 m] w fun e w' => ∃ v : Int, e = .returned (.int .i64 v) ∧ 0 ≤ v ∧ v < m ∧ Src w' g a n c (t + 1) ∧ Chg w w' (fun k => k = g) := by
  have HN := Lib.hid (next_any w g a n c t hs hy hn ht ht2)
  clear hs hy
  go_enter Try.func48, Try.ntmps48
  go_wp2_with fail
  refine HN.out.mono ?_
  rintro e w1 ⟨v, rfl, hv0, hv1, hs1, hc1⟩
  have HS := Lib.hid hs1
  have HC := Lib.hid hc1
  clear hs1 hc1 HN
  have hm0 : ¬ m = 0 := by omega
  have hr0 : 0 ≤ v % m := Int.emod_nonneg _ hm0
  have hr1 : v % m < m := Int.emod_lt_of_pos _ (by omega)
  go_wp2
  go_ret
  exact ⟨v % m, rfl, hr0, hr1, HS.out, HC.out⟩

set_option maxRecDepth 100000 in
set_option maxHeartbeats 400000 in
theorem l00From_any (w : World) (a : Option Addr) (n c : Nat) :
    Calls Try.prog 47 #[.slice a n c] w fun e w' => e = .returned (.pointer (some ⟨w.heap.size, 0, none⟩)) ∧ w' = w.alloc (.cells #[.slice a n c, .int .i64 0, .int .u64 0] 118) := by
  go_enter Try.func47, Try.ntmps47
  go_wp2
  go_ret
  exact ⟨rfl, rfl⟩
theorem fv_four : FV .f32 1082130432 1082130432 := ⟨by decide, by decide +kernel⟩
set_option maxRecDepth 100000 in
set_option maxHeartbeats 800000 in
theorem b10At_any (w : World) (v : Value) (n : Nat) (i m : Int) (hy : RdY w v n) (hn : n ≤ 1048576) (hi : 0 ≤ i) (hi2 : i ≤ 1000) (hm : 2 ≤ m) (hm2 : m ≤ 1000) :
    Calls Try.prog 19 #[v, .int .i64 i, .int .i64 m] w fun e w' => ∃ r : Int, e = .returned (.int .i64 r) ∧ 0 ≤ r ∧ r < m ∧ w' = w := by
  obtain ⟨a, c, rfl, hc, hcell⟩ := hy.opened
  clear hy
  have hm0 : ¬ m = 0 := by omega
  by_cases hlt : i < (n : Int)
  · obtain ⟨k, rfl⟩ : ∃ k : Nat, i = k := ⟨i.toNat, by omega⟩
    obtain ⟨b, o, rfl, hlb, y, ⟨hy0, hy1⟩, hy⟩ := hcell k (by omega)
    have hr0 : 0 ≤ y % m := Int.emod_nonneg _ hm0
    have hr1 : y % m < m := Int.emod_lt_of_pos _ (by omega)
    clear hcell
    go_enter Try.func19, Try.ntmps19
    go_wp2
    go_ret
    exact ⟨y % m, rfl, hr0, hr1, rfl⟩
  · have hr0 : 0 ≤ (i * 37 + 11) % m := Int.emod_nonneg _ hm0
    have hr1 : (i * 37 + 11) % m < m := Int.emod_lt_of_pos _ (by omega)
    clear hcell
    go_enter Try.func19, Try.ntmps19
    go_wp2
    go_ret
    exact ⟨(i * 37 + 11) % m, rfl, hr0, hr1, rfl⟩
set_option maxRecDepth 100000 in
set_option maxHeartbeats 400000 in
theorem b10Long_any (w : World) (a1 a2 : Option Addr) (n1 n2 c1 c2 : Nat) (h1 : n1 ≤ maxLen) (h2 : n2 ≤ maxLen) :
    Calls Try.prog 8 #[.slice a1 n1 c1, .slice a2 n2 c2] w fun e w' => e = .returned (.bool (decide (1048576 < n1) || decide (1048576 < n2))) ∧ w' = w := by
  by_cases h : 1048576 < n1
  · have hd : decide ((n1 : Int) > 1048576) = true := by simp; omega
    go_enter Try.func8, Try.ntmps8
    go_wp2
    go_ret
    exact ⟨by simp [h], rfl⟩
  · have hd : decide ((n1 : Int) > 1048576) = false := by simp; omega
    by_cases h3 : 1048576 < n2
    · have hd2 : decide ((n2 : Int) > 1048576) = true := by simp; omega
      go_enter Try.func8, Try.ntmps8
      go_wp2
      go_ret
      exact ⟨by simp [h3], rfl⟩
    · have hd2 : decide ((n2 : Int) > 1048576) = false := by simp; omega
      go_enter Try.func8, Try.ntmps8
      go_wp2
      go_ret
      exact ⟨by simp [h, h3], rfl⟩
end Go.Proofs.Ytibojlpeaolfbaa

/- Walks: the frames that the laws draw. -/
namespace Go.Proofs.Ytibojlpeaolfbaa
open Go Go.RowKit

theorem fv_eight : FV .f32 1090519040 1090519040 := ⟨by decide, by decide +kernel⟩
theorem Src.kept {w w' : World} {g : Nat} {a : Option Addr} {n c : Nat} {t : Int} (h : Src w g a n c t) (hg : w'.heap[g]? = w.heap[g]?) : Src w' g a n c t := by
  obtain ⟨sd, h1, h2⟩ := h
  exact ⟨sd, hg.trans h1, h2⟩
theorem Src.lt {w : World} {g : Nat} {a : Option Addr} {n c : Nat} {t : Int} (h : Src w g a n c t) : g < w.heap.size := by
  obtain ⟨sd, h1, h2⟩ := h
  exact (Array.getElem?_eq_some_iff.1 h1).1
theorem RdY.same {w w' : World} {v : Value} {n : Nat} (h : RdY w v n) (he : w'.heap = w.heap) : RdY w' v n := by
  obtain ⟨a, c, hv, hc, hz, hr⟩ := h
  refine ⟨a, c, hv, hc, hz, fun j hj => ?_⟩
  obtain ⟨b, o, u, ha, hu, hR⟩ := hr j hj
  exact ⟨b, o, u, ha, by unfold World.cell? at *; rw [he]; exact hu, hR⟩
theorem i64_wrapR (x : Int) (h : -1000000 ≤ x) (h2 : x ≤ 1000000) : IntKind.i64.wrap x = x := by
  simp [IntKind.wrap, IntKind.signed, IntKind.bits]
  omega
theorem cellR_same {w w' : World} {b o : Nat} (h : w'.heap[b]? = w.heap[b]?) : w'.cell? ⟨b, o, none⟩ = w.cell? ⟨b, o, none⟩ := by unfold World.cell?; rw [h]
theorem frozenR_same {w w' : World} {b o : Nat} (h : w'.heap[b]? = w.heap[b]?) : w'.frozen? ⟨b, o, none⟩ = w.frozen? ⟨b, o, none⟩ := by unfold World.frozen?; rw [h]
theorem quo_e8p (z : Int) (h0 : -32 ≤ z) (h1 : z ≤ 32) (w : World) : fres .quo .f32 (floatOfInt .f32 z) 1090519040 w = eV z ∧ w.drewN (fcnt .quo .f32 (floatOfInt .f32 z) 1090519040) = w := by
  have hf := (eV_fx z h0 h1).1.notNan
  have h : floatBits .quo .f32 (floatOfInt .f32 z) 1090519040 = some (eV z) := by
    unfold eV fop at hf ⊢
    cases hq : floatBits .quo .f32 (floatOfInt .f32 z) 1090519040 with
    | some r => rfl
    | none =>
      rw [hq] at hf
      have := isN_nanC .f32
      unfold isN FloatKind.decode at this
      rw [Option.getD_none] at hf
      exact absurd (this.symm.trans hf) (by decide)
  unfold fres fcnt
  rw [h]
  exact ⟨rfl, rfl⟩
theorem eV_fv (z : Int) : FV .f32 (eV z) (eV z) := fop_cls
section
variable {P : Program} {md : Region.Mode} {ops : Array Oper}
theorem wpAny_tail {Q' : Exit → Act → World → Prop} {fuel : Nat} {listed : Array Bool} {a : Act} {w : World} (n : Nat) (hf : ops.size = n + fuel) (hB : Region.seqB md ops fuel n listed = true) (h : wpList P ops Q' (ops.toList.drop n) a w) : wpAny P md ops Q' fuel listed a w := by
  have hl : (ops.toList.drop n).length = fuel := by simp [hf]
  have := wpAny_of_seq (md := md) (P := P) (ops := ops) (Q' := Q') (ops.toList.drop n) n listed a w (fun j => by simp [List.getElem?_drop]) (by rw [hl]; exact hB) h
  rwa [hl] at this
end
/-- Where l07DrawFrame stands: B = the size of the heap at its beginning. -/
structure DfS (W w wq : World) (g rb fb : Nat) (ad : Option Addr) (n c : Nat) (t st sa : Int) (v : Value) (zs : List Int) : Prop where
  bel : Below W.heap.size W wq
  chg : Chg w wq (fun k => k = g)
  s : Src wq g ad n c t
  r : wq.heap[rb]? = some (.cells #[.int .i64 0, .int .i64 0, .slice none 0 0] 31 (0, 0))
  p : wq.heap[fb]? = some (.cells #[.int .i64 st, .int .i64 sa, v] 31 (0, 0))
  o : OwnF wq (fb + 1) v (zs.map eV)
  lt : W.heap.size ≤ g ∧ g < w.heap.size ∧ w.heap.size ≤ rb ∧ rb < fb

theorem DfS.push {W w wi w7 w9 : World} {g rb fb : Nat} {ad : Option Addr} {n c : Nat} {t t' st sa : Int} {v v' : Value} {zs zs' : List Int} (h : DfS W w wi g rb fb ad n c t st sa v zs) (hc : Chg wi w7 (fun k => k = g)) (hs : Src w7 g ad n c t') (O : Obj)
    (o9 : OwnF w9 (fb + 1) v' (zs'.map eV)) (g9 : (w7.alloc O).grownBy w9 v.ownBlock) : DfS W w (w9.setCell ⟨fb, 2, none⟩ v') g rb fb ad n c t' st sa v' zs' ∧ w9.heap[fb]? = some (.cells #[.int .i64 st, .int .i64 sa, v] 31 (0, 0)) := by
  obtain ⟨l1, l2, l3, l4⟩ := h.lt
  have hr := (Array.getElem?_eq_some_iff.1 h.r).1
  have hp := (Array.getElem?_eq_some_iff.1 h.p).1
  have hz := hc.size
  have hv : ∀ k, v.ownBlock = some k → fb + 1 ≤ k := fun k hk => (h.o.lt hk).1
  have xa : Ext w7 (w7.alloc O) := (Below.refl _ _).alloc (Nat.le_refl _) _
  have hza : (w7.alloc O).heap.size = w7.heap.size + 1 := World.size_alloc _ _
  have C9 : Chg (w7.alloc O) w9 (fun k => v.ownBlock = some k) := Chg.of_grown g9 fun k hk => hk
  have b9 : ∀ k, k < wi.heap.size → k ≠ g → k < fb + 1 → w9.heap[k]? = wi.heap[k]? := fun k hk hkg hkf => by
    rw [C9.block k (by omega) fun e => by have := hv k e; omega, xa.block k (by omega), hc.block k hk hkg]
  have hp9 := (b9 fb hp (by omega) (by omega)).trans h.p
  have P := Put.one hp9 2 v'
  have hs7 := hs.lt
  have s9 : Src w9 g ad n c t' := hs.kept (by rw [C9.block g (by omega) fun e => by have := hv g e; omega, xa.block g (by omega)])
  have B7 : Below W.heap.size W w7 := Below.chg h.bel hc (fun k hk => by omega) h.bel.size
  have z9 := C9.size
  have B9 : Below W.heap.size W w9 := Below.chg (B7.trans (xa.mono B7.size)) C9 (fun k hk => by have := hv k hk; omega) (by have := B7.size; omega)
  have K9 : Chg w w9 (fun k => k = g) := ((h.chg.trans hc).trans (Chg.of_below xa _)).only C9 fun k hk hl => by have := hv k hk; omega
  exact ⟨⟨Below.chg B9 P.chg (fun k hk => by omega) B9.size, K9.only P.chg (fun k hk hl => by omega), s9.kept (P.chg.block _ s9.lt (by omega)), (P.chg.block _ (by omega) (by omega)).trans ((b9 rb hr (by omega) (by omega)).trans h.r),
    (P.cs (cs' := #[.int .i64 st, .int .i64 sa, v']) (by simp)).heap, o9.chg P.chg fun k hk e => by have := (o9.lt hk).1; omega, l1, l2, l3, l4⟩, hp9⟩

set_option maxRecDepth 100000 in
set_option maxHeartbeats 3200000 in
theorem drawFrame_any (W w : World) (g : Nat) (ad : Option Addr) (n c : Nat) (t : Int) (hy : RdY W (.slice ad n c) n) (hb : Below W.heap.size W w) (hg : W.heap.size ≤ g) (hs : Src w g ad n c t) (hn : n ≤ 1048576) (ht : 0 ≤ t) (ht2 : t ≤ 1000) :
    Calls Try.prog 49 #[.pointer (some ⟨g, 0, none⟩)] w fun e w' => ∃ (f : FM) (v : Value) (t' : Int), e = .returned (.agg #[.int .i64 f.st, .int .i64 f.sa, v]) ∧ Ev f ∧ OwnF w' w.heap.size v f.L ∧ Src w' g ad n c t' ∧ t ≤ t' ∧ t' ≤ t + 20 ∧ Below W.heap.size W w' ∧ Chg w w' (fun k => k = g) := by
  have hst := run_store_float (P := Try.prog)
  have hquo := run_fquo (P := Try.prog)
  have hgl := hs.lt
  obtain ⟨w0, hw0⟩ : ∃ w0, w.alloc (.cells #[.int .i64 0, .int .i64 0, .slice none 0 0] 31) = w0 := ⟨_, rfl⟩
  have x0 : Ext w w0 := by rw [← hw0]; exact (Below.refl _ _).alloc (Nat.le_refl _) _
  have hr0 : w0.heap[w.heap.size]? = some (.cells #[.int .i64 0, .int .i64 0, .slice none 0 0] 31 (0, 0)) := by rw [← hw0]; exact alloc_new _ _
  have z0 : w0.heap.size = w.heap.size + 1 := by rw [← hw0]; exact World.size_alloc _ _
  have HY := Lib.hid hy
  have HP0 := Lib.hid (pick_any w0 g ad n c t 3 (hs.kept (x0.block _ hgl)) (HY.out.mono (hb.trans (x0.mono hb.size))) hn ht (by omega) (by decide) (by decide))
  have HB0 : Hid (Below W.heap.size W w0 ∧ Chg w w0 (fun k => k = g)) := Lib.hid ⟨hb.trans (x0.mono hb.size), Chg.of_below x0 _⟩
  have HR0 := Lib.hid hr0
  clear hy hs hr0
  go_enter Try.func49, Try.ntmps49
  go_wp2_with fail
  refine HP0.out.mono ?_
  rintro e w1 ⟨st, rfl, hst0, hst1, s1, c1⟩
  have z1 := c1.size
  obtain ⟨fb, hfb⟩ : ∃ fb, w1.heap.size = fb := ⟨_, rfl⟩
  obtain ⟨w2, hw2⟩ : ∃ w2, w1.alloc (.cells #[.int .i64 0, .int .i64 0, .slice none 0 0] 31) = w2 := ⟨_, rfl⟩
  have x2 : Ext w1 w2 := by rw [← hw2]; exact (Below.refl _ _).alloc (Nat.le_refl _) _
  have hf2 : w2.heap[fb]? = some (.cells #[.int .i64 0, .int .i64 0, .slice none 0 0] 31 (0, 0)) := by rw [← hw2, ← hfb]; exact alloc_new _ _
  have z2 : w2.heap.size = fb + 1 := by rw [← hw2, ← hfb]; exact World.size_alloc _ _
  have P := put3 hf2 (.int .i64 st) (.int .i64 0) (.slice none 0 0)
  obtain ⟨m0, m1, m2, f0, f1, f2⟩ := blk3 hf2
  obtain ⟨w3, hw3⟩ : ∃ w3, ((w2.setCell ⟨fb, 0, none⟩ (.int .i64 st)).setCell ⟨fb, 1, none⟩ (.int .i64 0)).setCell ⟨fb, 2, none⟩ (.slice none 0 0) = w3 := ⟨_, rfl⟩
  rw [hw3] at P
  have S3 : Hid (DfS W w w3 g w.heap.size fb ad n c (t + 1) st 0 (.slice none 0 0) []) := Lib.hid (by
    have h1 : Below W.heap.size W w1 := Below.chg HB0.out.1 c1 (fun k hk => by omega) HB0.out.1.size
    have h2 := h1.trans (x2.mono h1.size)
    have h3 : Chg w w1 (fun k => k = g) := HB0.out.2.trans c1
    have h4 : Chg w w2 (fun k => k = g) := h3.trans (Chg.of_below x2 _)
    exact ⟨Below.chg h2 P.chg (fun k hk => by omega) h2.size, h4.only P.chg (fun k hk hl => by omega), (s1.kept (x2.block _ s1.lt)).kept (P.chg.block _ (by have := s1.lt; omega) (by omega)),
      (P.chg.block _ (by omega) (by omega)).trans ((x2.block _ (by omega)).trans ((c1.block _ (by omega) (by omega)).trans HR0.out)), P.heap, OwnF.nil _ _, by omega⟩)
  clear P x2 hf2 HB0 HR0 HP0 s1 c1
  go_wp2_with fail
  clear hw3 hw2 m0 m1 m2 f0 f1 f2
  have HP2 := Lib.hid (pick_any w3 g ad n c (t + 1) 20 S3.out.s (HY.out.mono S3.out.bel) hn (by omega) (by omega) (by decide) (by decide))
  refine HP2.out.mono ?_
  rintro e w4 ⟨sa, rfl, hsa0, hsa1, s4, c4⟩
  have hp4 := (c4.block fb (Array.getElem?_eq_some_iff.1 S3.out.p).1 (by have := S3.out.lt; omega)).trans S3.out.p
  obtain ⟨m0, m1, m2, f0, f1, f2⟩ := blk3 hp4
  have P := Put.one hp4 1 (.int .i64 sa)
  obtain ⟨w5, hw5⟩ : ∃ w5, w4.setCell ⟨fb, 1, none⟩ (.int .i64 sa) = w5 := ⟨_, rfl⟩
  rw [hw5] at P
  have S5 : Hid (DfS W w w5 g w.heap.size fb ad n c (t + 1 + 1) st sa (.slice none 0 0) []) := Lib.hid (by
    have hlt := S3.out.lt
    have h1 : Below W.heap.size W w4 := Below.chg S3.out.bel c4 (fun k hk => by omega) S3.out.bel.size
    have h3 : Chg w w4 (fun k => k = g) := S3.out.chg.trans c4
    have hr := (Array.getElem?_eq_some_iff.1 S3.out.r).1
    have hz := c4.size
    exact ⟨Below.chg h1 P.chg (fun k hk => by omega) h1.size, h3.only P.chg (fun k hk hl => by omega), s4.kept (P.chg.block _ s4.lt (by omega)),
      (P.chg.block _ (by omega) (by omega)).trans ((c4.block _ hr (by omega)).trans S3.out.r), (P.cs (cs' := #[.int .i64 st, .int .i64 sa, .slice none 0 0]) (by simp)).heap, OwnF.nil _ _, hlt⟩)
  clear P hp4 S3 HP2 s4 c4
  go_wp2_with fail
  clear hw5 m0 m1 m2 f0 f1 f2
  have HP3 := Lib.hid (pick_any w5 g ad n c (t + 1 + 1) 11 S5.out.s (HY.out.mono S5.out.bel) hn (by omega) (by omega) (by decide) (by decide))
  refine HP3.out.mono ?_
  rintro e w6 ⟨k11, rfl, hk0, hk1, s6, c6⟩
  have S6 : Hid (DfS W w w6 g w.heap.size fb ad n c (t + 3 + (0 : Nat)) st sa (.slice none 0 0) []) := Lib.hid (by
    have hlt := S5.out.lt
    have hr := (Array.getElem?_eq_some_iff.1 S5.out.r).1
    have hp := (Array.getElem?_eq_some_iff.1 S5.out.p).1
    exact ⟨Below.chg S5.out.bel c6 (fun k hk => by omega) S5.out.bel.size, S5.out.chg.trans c6, (by have := s6; rwa [show t + 1 + 1 + 1 = t + 3 + (0 : Nat) by omega] at this), (c6.block _ hr (by omega)).trans S5.out.r, (c6.block _ hp (by omega)).trans S5.out.p, OwnF.nil _ _, hlt⟩)
  obtain ⟨N, hN, hN1, hN2⟩ : ∃ N : Nat, 1 + k11 = N ∧ 1 ≤ N ∧ N ≤ 11 := ⟨(1 + k11).toNat, by omega, by omega, by omega⟩
  clear S5 HP3 s6 c6
  go_wp2_with fail
  clear hN
  go_loopw [4] (fun q wr => ∃ (j : Nat) (zs : List Int) (v : Value), j ≤ N ∧ zs.length = j ∧ q = .int .i64 ((N : Int) - j) ∧ (∀ z ∈ zs, -32 ≤ z ∧ z ≤ 32) ∧ DfS W w wr g w.heap.size fb ad n c (t + 3 + (j : Nat)) st sa v zs) (fun q _ => (intOf q).toNat)
  case atStart => exact ⟨0, [], _, by omega, rfl, by simp, (fun z hz => by cases hz), S6.out⟩
  case round =>
    clear S6
    obtain ⟨wi, rfl⟩ : ∃ wi : World, wi = wr := ⟨_, rfl⟩
    obtain ⟨j, zs, v, hj, hzl, rfl, hz, hS⟩ := hrel
    have HS := Lib.hid hS
    have HZ := Lib.hid hz
    have HZL := Lib.hid hzl
    obtain ⟨k0, k1, k2, -, -, -⟩ := blk3 hS.p
    have hlt := hS.lt
    clear hS hz hzl
    by_cases hlt2 : j < N
    · have HP := Lib.hid (fun (wq : World) (hq : wq.heap = wi.heap) => pick_any wq g ad n c (t + 3 + (j : Nat)) 65 (HS.out.s.kept (by rw [hq])) ((HY.out.mono HS.out.bel).same hq) hn (by omega) (by omega) (by decide) (by decide))
      have hgt : ((N : Int) - j) > 0 := by omega
      go_wp2_with fail
      refine wp_region_any (by kernel_rfl) ?_
      refine wpAny_take (i := 0) (v := .pointer (some ⟨fb, 2, none⟩)) rfl (by kernel_rfl) (by kernel_rfl) (by kernel_rfl) (fun _ _ _ h => h) (Or.inl ⟨by rfl, by intro w; go_simp⟩) ?_
      simp only [Act.put, List.setIfInBounds_toArray, List.set_cons_zero, List.set_cons_succ]
      refine wpAny_take (i := 2) (v := .pointer (some ⟨g, 0, none⟩)) rfl (by kernel_rfl) (by kernel_rfl) (by kernel_rfl) (fun _ _ _ h => h) (Or.inl ⟨by rfl, by intro w; go_simp⟩) ?_
      simp only [Act.put, List.setIfInBounds_toArray, List.set_cons_zero, List.set_cons_succ]
      have hfl : fb < wi.heap.size := (Array.getElem?_eq_some_iff.1 HS.out.p).1
      refine wpAny_ready (rs := [1, 3]) (by kernel_rfl) (by simp) (AllReady.cons rfl (fun K hK => ?_) (AllReady.cons rfl (fun K hK => ?_) AllReady.nil))
      · (go_simp; refine hK _ _ ?_; clear hK K)
        refine wpAny_ready (rs := [3]) (by kernel_rfl) (by simp) (AllReady.cons rfl (fun K hK => ?_) AllReady.nil)
        (go_simp; go_wp2_with (go_at_call 48; go_must (refine (HP.out wi.drew rfl).mono ?_; rintro e w7 ⟨p, rfl, hp0, hp1, s7, c7⟩)))
        have e7 : w7.heap[fb]? = wi.heap[fb]? := c7.block fb hfl (by omega)
        replace k2 := (cellR_same (o := 2) e7).trans k2
        have hwp : IntKind.i64.wrap (p - 32) = p - 32 := i64_wrapR _ (by omega) (by omega)
        have HS7 := Lib.hid s7; have HC7 : Hid (Chg wi w7 (fun k => k = g)) := Lib.hid ⟨c7.os, c7.tape, c7.output, c7.size, c7.block⟩; clear s7 c7 e7
        refine wpAny_take (i := 4) (v := .int .i64 (p - 32)) rfl (by kernel_rfl) (by kernel_rfl) (by kernel_rfl) (fun _ _ _ h => h) (Or.inl ⟨by rfl, (by intro w; go_simp)⟩) ?_; simp only [Act.put, List.setIfInBounds_toArray, List.set_cons_zero, List.set_cons_succ]
        refine wpAny_take (i := 5) (v := .float .f32 (floatOfInt .f32 (p - 32))) rfl (by kernel_rfl) (by kernel_rfl) (by kernel_rfl) (fun _ _ _ h => h) (Or.inl ⟨by rfl, (by intro w; go_simp)⟩) ?_; simp only [Act.put, List.setIfInBounds_toArray, List.set_cons_zero, List.set_cons_succ]
        refine wpAny_take (i := 6) (v := .float .f32 (eV (p - 32))) rfl (by kernel_rfl) (by kernel_rfl) (by kernel_rfl) (fun _ _ _ h => h) (Or.inl ⟨by rfl, (by intro w; go_simp; exact quo_e8p _ (by omega) (by omega) w)⟩) ?_; simp only [Act.put, List.setIfInBounds_toArray, List.set_cons_zero, List.set_cons_succ]
        refine wpAny_ready (rs := [7]) (by kernel_rfl) (by simp) (AllReady.cons rfl (fun K hK => ?_) AllReady.nil)
        (go_simp; refine hK _ _ ?_; clear hK K)
        refine wpAny_tail 8 (by kernel_rfl) (by kernel_rfl) ?_
        simp only [List.drop_succ_cons, List.drop_zero]
        have hbx : Below (fb + 1) w7 (w7.alloc (.cells #[.float .f32 (eV (p - 32))] 53)) := (Below.refl _ _).alloc (by have := HC7.out.size; omega) _
        have hoX : OwnF (w7.alloc (.cells #[.float .f32 (eV (p - 32))] 53)) (fb + 1) v (zs.map eV) := (HS.out.o.chg HC7.out fun k hk e => by have := (HS.out.o.lt hk).1; omega).kept ((Below.refl _ _).alloc (Nat.le_refl _) _)
        refine wpList_push rfl _ _ rfl (fb + 1) v (zs.map eV) rfl hoX _ _ _ (eV (p - 32)) rfl (cell_new _ _ _) (eV_fv _) (by rw [List.length_map, HZL.out]; omega) (by have := HC7.out.size; have := World.size_alloc w7 (.cells #[.float .f32 (eV (p - 32))] 53); omega) ?_
        intro v9 w9 o9 g9 b9 l9; obtain ⟨a9, n9, c9, rfl⟩ : ∃ a n c, v9 = .slice a n c := (by obtain ⟨a, c, h, -⟩ := o9.rd.opened; exact ⟨a, _, c, h⟩)
        have o9' : OwnF w9 (fb + 1) (.slice a9 n9 c9) ((zs ++ [p - 32]).map eV) := by rw [List.map_append]; exact o9
        obtain ⟨ST, hp9⟩ := HS.out.push (v' := .slice a9 n9 c9) HC7.out HS7.out _ o9' g9
        have HST := Lib.hid ST
        obtain ⟨q0, q1, q2, f0, f1, f2⟩ := blk3 hp9
        clear hoX o9 o9' g9 b9 l9 ST hp9 k0 k1 k2 hbx
        go_wp2_with fail
        refine ⟨⟨j + 1, zs ++ [p - 32], _, by omega, by rw [List.length_append, HZL.out]; rfl, by congr 1; omega, fun z hz => ?_, by have := HST.out; rwa [show t + 3 + (j : Nat) + 1 = t + 3 + ((j + 1 : Nat) : Int) by omega] at this⟩, by simp [intOf]; omega⟩
        rcases List.mem_append.1 hz with h | h
        · exact HZ.out z h
        · obtain rfl := List.mem_singleton.1 h
          omega
      · (go_simp; go_wp2_with (go_at_call 48; go_must (refine (HP.out wi.drew rfl).mono ?_; rintro e w7 ⟨p, rfl, hp0, hp1, s7, c7⟩)))
        have e7 : w7.heap[fb]? = wi.heap[fb]? := c7.block fb hfl (by omega)
        replace k2 := (cellR_same (o := 2) e7).trans k2
        have hwp : IntKind.i64.wrap (p - 32) = p - 32 := i64_wrapR _ (by omega) (by omega)
        have HS7 := Lib.hid s7; have HC7 : Hid (Chg wi w7 (fun k => k = g)) := Lib.hid ⟨c7.os, c7.tape, c7.output, c7.size, c7.block⟩; clear s7 c7 e7
        refine wpAny_take (i := 4) (v := .int .i64 (p - 32)) rfl (by kernel_rfl) (by kernel_rfl) (by kernel_rfl) (fun _ _ _ h => h) (Or.inl ⟨by rfl, (by intro w; go_simp)⟩) ?_; simp only [Act.put, List.setIfInBounds_toArray, List.set_cons_zero, List.set_cons_succ]
        refine wpAny_take (i := 5) (v := .float .f32 (floatOfInt .f32 (p - 32))) rfl (by kernel_rfl) (by kernel_rfl) (by kernel_rfl) (fun _ _ _ h => h) (Or.inl ⟨by rfl, (by intro w; go_simp)⟩) ?_; simp only [Act.put, List.setIfInBounds_toArray, List.set_cons_zero, List.set_cons_succ]
        refine wpAny_take (i := 6) (v := .float .f32 (eV (p - 32))) rfl (by kernel_rfl) (by kernel_rfl) (by kernel_rfl) (fun _ _ _ h => h) (Or.inl ⟨by rfl, (by intro w; go_simp; exact quo_e8p _ (by omega) (by omega) w)⟩) ?_; simp only [Act.put, List.setIfInBounds_toArray, List.set_cons_zero, List.set_cons_succ]
        refine wpAny_ready (rs := [1, 7]) (by kernel_rfl) (by simp) (AllReady.cons rfl (fun K hK => ?_) (AllReady.cons rfl (fun K hK => ?_) AllReady.nil))
        · (go_simp; refine hK _ _ ?_; clear hK K)
          refine wpAny_ready (rs := [7]) (by kernel_rfl) (by simp) (AllReady.cons rfl (fun K hK => ?_) AllReady.nil)
          (go_simp; refine hK _ _ ?_; clear hK K)
          refine wpAny_tail 8 (by kernel_rfl) (by kernel_rfl) ?_
          simp only [List.drop_succ_cons, List.drop_zero]
          have hbx : Below (fb + 1) w7 (w7.alloc (.cells #[.float .f32 (eV (p - 32))] 53)) := (Below.refl _ _).alloc (by have := HC7.out.size; omega) _
          have hoX : OwnF (w7.alloc (.cells #[.float .f32 (eV (p - 32))] 53)) (fb + 1) v (zs.map eV) := (HS.out.o.chg HC7.out fun k hk e => by have := (HS.out.o.lt hk).1; omega).kept ((Below.refl _ _).alloc (Nat.le_refl _) _)
          refine wpList_push rfl _ _ rfl (fb + 1) v (zs.map eV) rfl hoX _ _ _ (eV (p - 32)) rfl (cell_new _ _ _) (eV_fv _) (by rw [List.length_map, HZL.out]; omega) (by have := HC7.out.size; have := World.size_alloc w7 (.cells #[.float .f32 (eV (p - 32))] 53); omega) ?_
          intro v9 w9 o9 g9 b9 l9; obtain ⟨a9, n9, c9, rfl⟩ : ∃ a n c, v9 = .slice a n c := (by obtain ⟨a, c, h, -⟩ := o9.rd.opened; exact ⟨a, _, c, h⟩)
          have o9' : OwnF w9 (fb + 1) (.slice a9 n9 c9) ((zs ++ [p - 32]).map eV) := by rw [List.map_append]; exact o9
          obtain ⟨ST, hp9⟩ := HS.out.push (v' := .slice a9 n9 c9) HC7.out HS7.out _ o9' g9
          have HST := Lib.hid ST
          obtain ⟨q0, q1, q2, f0, f1, f2⟩ := blk3 hp9
          clear hoX o9 o9' g9 b9 l9 ST hp9 k0 k1 k2 hbx
          go_wp2_with fail
          refine ⟨⟨j + 1, zs ++ [p - 32], _, by omega, by rw [List.length_append, HZL.out]; rfl, by congr 1; omega, fun z hz => ?_, by have := HST.out; rwa [show t + 3 + (j : Nat) + 1 = t + 3 + ((j + 1 : Nat) : Int) by omega] at this⟩, by simp [intOf]; omega⟩
          rcases List.mem_append.1 hz with h | h
          · exact HZ.out z h
          · obtain rfl := List.mem_singleton.1 h
            omega
        · (go_simp; refine hK _ _ ?_; clear hK K)
          replace k2 : (w7.alloc (.cells #[.float .f32 (eV (p - 32))] 53)).cell? ⟨fb, 2, none⟩ = some v := (cellR_same (o := 2) (Below.heap_alloc w7 _ fb (by have := HC7.out.size; omega))).trans k2
          refine wpAny_ready (rs := [1]) (by kernel_rfl) (by simp) (AllReady.cons rfl (fun K hK => ?_) AllReady.nil)
          (go_simp; refine hK _ _ ?_; clear hK K)
          refine wpAny_tail 8 (by kernel_rfl) (by kernel_rfl) ?_
          simp only [List.drop_succ_cons, List.drop_zero]
          have hbx : Below (fb + 1) w7 (w7.alloc (.cells #[.float .f32 (eV (p - 32))] 53)) := (Below.refl _ _).alloc (by have := HC7.out.size; omega) _
          have hoX : OwnF (w7.alloc (.cells #[.float .f32 (eV (p - 32))] 53)) (fb + 1) v (zs.map eV) := (HS.out.o.chg HC7.out fun k hk e => by have := (HS.out.o.lt hk).1; omega).kept ((Below.refl _ _).alloc (Nat.le_refl _) _)
          refine wpList_push rfl _ _ rfl (fb + 1) v (zs.map eV) rfl hoX _ _ _ (eV (p - 32)) rfl (cell_new _ _ _) (eV_fv _) (by rw [List.length_map, HZL.out]; omega) (by have := HC7.out.size; have := World.size_alloc w7 (.cells #[.float .f32 (eV (p - 32))] 53); omega) ?_
          intro v9 w9 o9 g9 b9 l9; obtain ⟨a9, n9, c9, rfl⟩ : ∃ a n c, v9 = .slice a n c := (by obtain ⟨a, c, h, -⟩ := o9.rd.opened; exact ⟨a, _, c, h⟩)
          have o9' : OwnF w9 (fb + 1) (.slice a9 n9 c9) ((zs ++ [p - 32]).map eV) := by rw [List.map_append]; exact o9
          obtain ⟨ST, hp9⟩ := HS.out.push (v' := .slice a9 n9 c9) HC7.out HS7.out _ o9' g9
          have HST := Lib.hid ST
          obtain ⟨q0, q1, q2, f0, f1, f2⟩ := blk3 hp9
          clear hoX o9 o9' g9 b9 l9 ST hp9 k0 k1 k2 hbx
          go_wp2_with fail
          refine ⟨⟨j + 1, zs ++ [p - 32], _, by omega, by rw [List.length_append, HZL.out]; rfl, by congr 1; omega, fun z hz => ?_, by have := HST.out; rwa [show t + 3 + (j : Nat) + 1 = t + 3 + ((j + 1 : Nat) : Int) by omega] at this⟩, by simp [intOf]; omega⟩
          rcases List.mem_append.1 hz with h | h
          · exact HZ.out z h
          · obtain rfl := List.mem_singleton.1 h
            omega
    · obtain rfl : N = j := by omega
      have hgt : ¬ ((N : Int) - N) > 0 := by omega
      have PZ := put3 HS.out.r (.int .i64 st) (.int .i64 sa) v
      have HO := HS.out.o
      obtain ⟨av, nv, cv, rfl⟩ : ∃ a n c, v = .slice a n c := (by obtain ⟨a, c, h, -⟩ := HO.rd.opened; exact ⟨a, _, c, h⟩)
      have HPZ := Lib.hid PZ
      obtain ⟨m0, m1, m2, f0, f1, f2⟩ := blk3 HS.out.r
      clear PZ HO
      go_wp2_with fail
      have PZ := HPZ.out
      clear HPZ
      generalize (((wi.setCell ⟨w.heap.size, 0, none⟩ (.int .i64 st)).setCell ⟨w.heap.size, 1, none⟩ (.int .i64 sa)).setCell ⟨w.heap.size, 2, none⟩ (.slice av nv cv)) = wy at *
      obtain ⟨q0, q1, q2, -, -, -⟩ := blk3 PZ.heap
      refine bodyPost_ret (v := .agg #[.int .i64 st, .int .i64 sa, .slice av nv cv]) (by simp [results, Try.results49, go_sem, q0, q1, q2]) rfl ?_
      have hgs := HS.out.s.lt
      have EV : Ev ⟨st, sa, zs.map eV⟩ := by
        refine ⟨⟨hst0, ?_⟩, ⟨hsa0, ?_⟩, ?_, fun x hx => ?_⟩
        · show st ≤ 2; omega
        · show sa ≤ 19; omega
        · show 1 ≤ (zs.map eV).length ∧ (zs.map eV).length ≤ 11
          rw [List.length_map, HZL.out]; exact ⟨hN1, hN2⟩
        · obtain ⟨z, hz, rfl⟩ := List.mem_map.1 hx
          exact ⟨z, rfl, HZ.out z hz⟩
      have OV := (HS.out.o.chg PZ.chg fun k hk e => by have := (HS.out.o.lt hk).1; omega).mono (B' := w.heap.size) (by omega)
      exact ⟨⟨st, sa, zs.map eV⟩, .slice av nv cv, rfl, EV, OV, t + 3 + (N : Nat), HS.out.s.kept (PZ.chg.block _ hgs (by omega)), by omega, by omega, Below.chg HS.out.bel PZ.chg (fun k hk => by omega) HS.out.bel.size, HS.out.chg.only PZ.chg (fun k hk hl => by omega)⟩
end Go.Proofs.Ytibojlpeaolfbaa

/- Walks: spec.GapsOf, impl.GapsOf. -/
namespace Go.Proofs.Ytibojlpeaolfbaa
open Go Go.RowKit

def gapOk (Fs : List FM) (s : Int) : Bool := areF Fs && inB s 0 200
def gapL' (Fs : List FM) (s : Int) : List (List Int) := if gapOk Fs s then gapL (ofF Fs s) (ofF Fs s).length else []
theorem gapL'_small (Fs : List FM) (s : Int) : (gapL' Fs s).length ≤ 12 ∧ ∀ j, j < (gapL' Fs s).length → (rowI (gapL' Fs s) j).length ≤ 2 := by
  unfold gapL'
  split
  · rename_i h
    unfold gapOk at h
    simp only [Bool.and_eq_true] at h
    have h1 := areF_len h.1
    have h2 := ofF_length Fs s
    have h3 := gapL_len (ofF Fs s) (ofF Fs s).length
    exact ⟨by omega, fun j hj => gapL_row _ _ _ hj⟩
  · exact ⟨by simp, fun j hj => by simp at hj⟩
def GapV (Fs : List FM) (s : Int) (B : Nat) (e : Ending) (w' : World) : Prop :=
  ∃ v, e = .returned (.tuple #[v, .bool (gapOk Fs s)]) ∧ OwnII w' (Iv B w'.heap.size) v (gapL' Fs s)
/-- A row of two numbers that was just laid. -/
theorem own1_pair {w : World} {B : Nat} (x y : Int) (hB : B ≤ w.heap.size) : Own1 (w.alloc (.cells #[.int .i64 x, .int .i64 y] 2)) (fun k => B ≤ k) (.is [x, y]) (.slice (some ⟨w.heap.size, 0, none⟩) 2 2) := by
  refine Own1.is_ (B := B) ?_ fun k hk => by cases hk; exact hB
  exact World.ownsRow_lit w #[.int .i64 x, .int .i64 y] 2 hB (by decide) rfl
theorem Own1.kept {w w' : World} {S : Nat → Prop} {d : D1} {u : Value} (h : Own1 w S d u) (hb : Below w.heap.size w w') : Own1 w' S d u := h.same fun k hk => hb.block k (h.lt k hk).2

end Go.Proofs.Ytibojlpeaolfbaa

/- Walks: impl.GapsOf. -/
namespace Go.Proofs.Ytibojlpeaolfbaa
open Go Go.RowKit

theorem cell_new3 (w : World) (o p : Obj) (u : Value) (t : TypeId) : (((w.alloc o).alloc p).alloc (.cells #[u] t)).cell? ⟨w.heap.size + 1 + 1, 0, none⟩ = some u := by
  have e : ((w.alloc o).alloc p).heap.size = w.heap.size + 1 + 1 := by simp
  rw [← e]
  exact cell_new _ _ _
theorem maxI_eq (a b : Int) : max a b = maxI a b := by
  unfold maxI
  split <;> omega
set_option maxRecDepth 100000 in
set_option maxHeartbeats 3200000 in
theorem implGaps_any (w : World) (v : Value) (Fs : List FM) (s : Int) (h : RdFr w v Fs) (hs : Fsmall Fs) :
    Calls Try.prog 43 #[v, .int .i64 s] w fun e w' => GapV Fs s w.heap.size e w' ∧ Below w.heap.size w w' := by
  have HK := Lib.hid (isStation_any w v Fs s h hs)
  have HR := Lib.hid h
  obtain ⟨a, c, rfl, -⟩ := h.opened
  clear h
  cases hp : areF Fs && inB s 0 200 with
  | false =>
    have HN : Hid (∀ w', GapV Fs s w.heap.size (.returned (.tuple #[.slice none 0 0, .bool false])) w') := Lib.hid fun w' => by
      have hf : gapOk Fs s = false := hp
      exact ⟨_, by rw [hf], by unfold gapL'; rw [hf]; exact OwnII.nil _ _⟩
    rw [hp] at HK
    clear hp HR hs
    go_enter Try.func43, Try.ntmps43
    go_wp2_with fail
    refine HK.out.mono ?_
    rintro e w1 ⟨rfl, b1⟩
    go_wp2
    go_ret2
    exact ⟨HN.out _, b1⟩
  | true =>
    have hp2 := hp
    simp only [Bool.and_eq_true] at hp2
    have HSA := Lib.hid (ofF_sa s (areF_sa hp2.1 hs))
    have hlen := areF_len hp2.1
    have hlo := ofF_length Fs s
    have hS2 := Lib.hid hs.2
    have HG : Hid (∀ (v : Value) (w' : World), OwnII w' (Iv w.heap.size w'.heap.size) v (gapL (ofF Fs s) (ofF Fs s).length) → GapV Fs s w.heap.size (.returned (.tuple #[v, .bool true])) w') := Lib.hid fun v w' h1 => by
      have hf : gapOk Fs s = true := hp
      exact ⟨_, by rw [hf], by unfold gapL'; rw [hf]; exact h1⟩
    rw [hp] at HK
    clear hp hp2 hs
    go_enter Try.func43, Try.ntmps43
    go_wp2_with fail
    refine HK.out.mono ?_
    rintro e w1 ⟨rfl, b1⟩
    have z1 := b1.size
    have HO := Lib.hid (ofStation_any w1 _ s Fs (HR.out.mono b1) (by omega) hS2.out)
    clear HK
    go_wp2_with fail
    refine HO.out.mono ?_
    clear HO
    rintro e w2 ⟨v2, Es, rfl, o2, r2, hes, b2, e2⟩
    have O2 := Lib.hid o2
    have HES := Lib.hid hes
    have HLE : Hid (Es.length = (ofF Fs s).length) := Lib.hid (by rw [← hes, List.length_map])
    obtain ⟨a2, c2, rfl⟩ := o2.slice
    have hz2 := b2.size
    have BW := Lib.hid (b1.trans (b2.mono (by omega)))
    clear o2 r2 e2 hes b2 b1
    go_wp2_with fail
    go_loopw [6, 7, 18] (fun o q i wr => ∃ j : Nat, j ≤ Es.length ∧ i = .int .i64 j ∧ q = .int .i64 (gapE (ofF Fs s) j) ∧ OwnII wr (Iv w2.heap.size wr.heap.size) o (gapL (ofF Fs s) j) ∧ Below w2.heap.size w2 wr) (fun _ _ i _ => Es.length - (intOf i).toNat)
    case atStart => exact ⟨0, Nat.zero_le _, rfl, rfl, OwnII.nil _ _, Below.refl _ _⟩
    case round =>
      obtain ⟨wi, rfl⟩ : ∃ wi : World, wi = wr := ⟨_, rfl⟩
      obtain ⟨j, hj, rfl, rfl, p, ch⟩ := hrel
      have P := Lib.hid p
      have CH := Lib.hid ch
      have hzi := ch.size
      by_cases hlt : j < Es.length
      · have hjo : j < (ofF Fs s).length := by rw [← HLE.out]; exact hlt
        obtain ⟨hv, hE0⟩ | ⟨g, cap, hv, hgB, hgs, hcap, hc0, -⟩ := (O2.out.kept ch).form
        · rw [hE0] at hlt; cases hlt
        obtain ⟨rfl, rfl⟩ : a2 = some ⟨g, 0, none⟩ ∧ c2 = cap := by cases hv; exact ⟨rfl, rfl⟩
        obtain ⟨m0, m1, m2⟩ := hc0 j hlt
        have hfe : frAt (ofF Fs s) j = (feAt Es j).f := by rw [← HES.out, feAt_map]
        obtain ⟨s1, s2, s3⟩ := HSA.out j hjo
        obtain ⟨e1, e2⟩ := gapE_le (ofF Fs s) HSA.out j (by omega)
        have hgl := Nat.le_trans (gapL_len (ofF Fs s) j) (Nat.le_of_lt hjo)
        have HE : Hid (gapE (ofF Fs s) (j + 1) = maxI (gapE (ofF Fs s) j) ((feAt Es j).f.sa + ((feAt Es j).f.L.length : Nat))) := Lib.hid (by rw [gapE, hfe])
        have HY : Hid (0 < j → gapE (ofF Fs s) j < (feAt Es j).f.sa → gapL (ofF Fs s) (j + 1) = gapL (ofF Fs s) j ++ [[gapE (ofF Fs s) j, (feAt Es j).f.sa]]) := Lib.hid fun h1 h2 => by rw [← hfe]; exact gapL_yes h1 (by rw [hfe]; exact h2)
        have HX : Hid (¬ (0 < j ∧ gapE (ofF Fs s) j < (feAt Es j).f.sa) → gapL (ofF Fs s) (j + 1) = gapL (ofF Fs s) j) := Lib.hid fun h1 => gapL_no (by rw [hfe]; exact h1)
        rw [hfe] at s1 s2 s3
        clear hc0 hfe hv p ch
        generalize feAt Es j = y at *
        obtain ⟨⟨yst, ysa, yL⟩, ya, yc⟩ := y
        simp only [FE.tr] at *
        have HF := Lib.hid (fun wq => frameEnd_any wq yst ysa ya yL.length yc s1 s2 s3)
        generalize gapE (ofF Fs s) j = E at *
        have xf : Below wi.heap.size wi (wi.alloc (.cells #[.int .i64 yst, .int .i64 ysa, .slice ya yL.length yc] 31)) := (Below.refl _ _).alloc (Nat.le_refl _) _
        have XF := Lib.hid xf
        clear xf
        by_cases hc : 0 < j ∧ E < ysa
        · obtain ⟨hc1, hc2⟩ := hc
          have HL := Lib.hid (HY.out hc1 hc2)
          have hd1 : decide ((j : Int) > 0) = true := by simp; omega
          have hd2 : decide (ysa > E) = true := by simp; omega
          clear HY HX
          obtain ⟨wf, hwf⟩ : ∃ wf, wi.alloc (.cells #[.int .i64 yst, .int .i64 ysa, .slice ya yL.length yc] 31) = wf := ⟨_, rfl⟩
          have hzf : wf.heap.size = wi.heap.size + 1 := by rw [← hwf]; exact World.size_alloc _ _
          have xa : Below wf.heap.size wf ((wf.alloc (.cells #[.int .i64 E, .int .i64 ysa] 2)).alloc (.cells #[.slice (some ⟨wf.heap.size, 0, none⟩) 2 2] 62)) := ((Below.refl _ _).alloc (Nat.le_refl _) _).alloc (by simp) _
          have hpair := (own1_pair (w := wf) (B := wf.heap.size) E ysa (Nat.le_refl _)).kept ((Below.refl _ _).alloc (Nat.le_refl _) (.cells #[.slice (some ⟨wf.heap.size, 0, none⟩) 2 2] 62))
          rw [← hwf] at xa hpair
          have hz1' : (wi.alloc (.cells #[.int .i64 yst, .int .i64 ysa, .slice ya yL.length yc] 31)).heap.size = wi.heap.size + 1 := World.size_alloc _ _
          rw [hz1'] at xa hpair
          have HP := Lib.hid hpair
          have XA : Hid (Below wi.heap.size wi _) := Lib.hid (XF.out.trans (xa.mono (by omega)))
          have hz3 : (((wi.alloc (.cells #[.int .i64 yst, .int .i64 ysa, .slice ya yL.length yc] 31)).alloc (.cells #[.int .i64 E, .int .i64 ysa] 2)).alloc (.cells #[.slice (some ⟨wi.heap.size + 1, 0, none⟩) 2 2] 62)).heap.size = wi.heap.size + 3 := by simp
          have HFr : Hid (∀ w6, (((wi.alloc (.cells #[.int .i64 yst, .int .i64 ysa, .slice ya yL.length yc] 31)).alloc (.cells #[.int .i64 E, .int .i64 ysa] 2)).alloc (.cells #[.slice (some ⟨wi.heap.size + 1, 0, none⟩) 2 2] 62)).grownBy w6 u6.ownBlock → w6.cell? ⟨wi.heap.size, 0, none⟩ = some (.int .i64 yst) ∧ w6.cell? ⟨wi.heap.size, 1, none⟩ = some (.int .i64 ysa) ∧ w6.cell? ⟨wi.heap.size, 2, none⟩ = some (.slice ya yL.length yc)) := Lib.hid fun w6 g6 => by
            obtain ⟨k0, k1, k2, -, -, -⟩ := blk3 (w := w6) (g := wi.heap.size) ((g6.block wi.heap.size (by omega) fun e => by have := (OwnC.lt P.out _ e.symm).2; omega).trans (heap3 wi _ _ _).1)
            exact ⟨k0, k1, k2⟩
          clear hpair xa hwf hzf hz1'
          go_wp2_with (at_builtin; go_must (refine wpList_pushC rfl _ _ 70 62 rfl (.slice none 0 0) 24 Try.underlying70 Try.infoII rfl (by decide) w2.heap.size (wi.heap.size + 1) _ _ _ rfl (OwnC.wide (OwnC.kept P.out XA.out) fun k hk => ⟨hk.1, by have := hk.2; omega⟩) (by omega) (by omega) _ _ _ (.is [E, ysa]) rfl (cell_new3 _ _ _ _ _) rfl HP.out (by omega) ?_); intro v6 w6 o6 g6 l6; clear m0 m1 m2; obtain ⟨k0, k1, k2⟩ := HFr.out w6 g6; clear HFr)
          refine (HF.out _).mono ?_
          rintro e w7 ⟨rfl, b7⟩
          have OQ : Hid (OwnII w6 (Iv w2.heap.size w6.heap.size) v6 (gapL (ofF Fs s) j ++ [[E, ysa]])) := Lib.hid (by
            unfold OwnII
            rw [List.map_append, List.length_append]
            exact o6)
          have z6 := g6.size
          have B6 : Hid (Below w2.heap.size w2 w6) := Lib.hid ((CH.out.trans (XA.out.mono hzi)).grown g6 (by omega) fun k hk => (OwnC.lt P.out k hk).1.1)
          clear o6 g6 l6
          go_wp2_with fail
          refine ⟨⟨j + 1, by omega, by go_num, by rw [HE.out, maxI_eq], ?_, B6.out.trans (b7.mono B6.out.size)⟩, by simp [intOf]; omega⟩
          rw [HL.out]
          exact (OQ.out.kept b7).wide fun k hk => ⟨hk.1, by have := hk.2; have := b7.size; omega⟩
        · have HL := Lib.hid (HX.out hc)
          clear HY HX
          by_cases hj0 : j = 0
          · subst hj0
            go_wp2_with fail
            refine (HF.out _).mono ?_
            rintro e w7 ⟨rfl, b7⟩
            go_wp2_with fail
            have b8 := XF.out.trans (b7.mono XF.out.size)
            refine ⟨⟨1, by omega, by go_num, by rw [HE.out, maxI_eq], ?_, CH.out.trans (b8.mono hzi)⟩, by simp [intOf]; omega⟩
            rw [HL.out]
            exact (P.out.kept b8).wide fun k hk => ⟨hk.1, by have := hk.2; have := b8.size; omega⟩
          · have hd1 : decide ((j : Int) > 0) = true := by simp; omega
            have hd2 : decide (ysa > E) = false := by simp; omega
            go_wp2_with fail
            refine (HF.out _).mono ?_
            rintro e w7 ⟨rfl, b7⟩
            go_wp2_with fail
            have b8 := XF.out.trans (b7.mono XF.out.size)
            refine ⟨⟨j + 1, by omega, by go_num, by rw [HE.out, maxI_eq], ?_, CH.out.trans (b8.mono hzi)⟩, by simp [intOf]; omega⟩
            rw [HL.out]
            exact (P.out.kept b8).wide fun k hk => ⟨hk.1, by have := hk.2; have := b8.size; omega⟩
      · obtain rfl : j = Es.length := by omega
        go_wp2_with fail
        go_ret2
        have := P.out
        rw [HLE.out] at this
        exact ⟨HG.out _ _ (this.wide fun k hk => ⟨by have := hk.1; omega, hk.2⟩), BW.out.trans (CH.out.mono (by omega))⟩
end Go.Proofs.Ytibojlpeaolfbaa

/- Walks: spec.SumStations. -/
namespace Go.Proofs.Ytibojlpeaolfbaa
open Go Go.RowKit

def sumOk (Fs : List FM) (t0 n : Int) : Bool := areF Fs && (inB t0 0 100000 && inB n 1 128)
def sumN' (Fs : List FM) (t0 n : Int) : List Nat := if sumOk Fs t0 n then sumN Fs t0 (stTo Fs Fs.length) n.toNat (stTo Fs Fs.length).length else []
def sumC' (Fs : List FM) (t0 n : Int) : List Int := if sumOk Fs t0 n then sumC Fs t0 (stTo Fs Fs.length) n.toNat (stTo Fs Fs.length).length else []
theorem sumN'_length (Fs : List FM) (t0 n : Int) : (sumN' Fs t0 n).length ≤ 128 := by
  unfold sumN'
  split
  · rename_i h
    rw [sumN_length]
    unfold sumOk inB at h
    simp only [Bool.and_eq_true, decide_eq_true_eq] at h
    omega
  · simp
theorem sumC'_length (Fs : List FM) (t0 n : Int) : (sumC' Fs t0 n).length = (sumN' Fs t0 n).length := by
  unfold sumC' sumN'
  split
  · rw [sumN_length, sumC_length]
  · rfl
def SumV (Fs : List FM) (t0 n : Int) (B : Nat) (e : Ending) (w' : World) : Prop :=
  ∃ v1 v2, e = .returned (.tuple #[v1, v2, .bool (sumOk Fs t0 n)]) ∧ OwnF w' B v1 (sumN' Fs t0 n) ∧ OwnI w' B v2 (sumC' Fs t0 n)
theorem OwnI.nil (w : World) (B : Nat) : OwnI w B (.slice none 0 0) [] := World.ownsRow_nil w B _ 1
theorem inB_out' {n lo hi : Int} (h : inB n lo hi = true) : lo ≤ n ∧ n ≤ hi := by
  unfold inB at h
  simpa using h

end Go.Proofs.Ytibojlpeaolfbaa

/- Walks: impl.SumStations. -/
namespace Go.Proofs.Ytibojlpeaolfbaa
open Go Go.RowKit

theorem OwnB.cells {w : World} {B g n cap : Nat} {L : List Bool} (h : OwnB w B (.slice (some ⟨g, 0, none⟩) n cap) L) (hn : L.length = n) :
    (∀ j, j < n → w.cell? ⟨g, j, none⟩ = some (.bool (bAt L j))) ∧ ∀ j, w.frozen? ⟨g, j, none⟩ = false := by
  obtain ⟨g', cap', e, -, -, -, hc, hf⟩ := h.form.resolve_left fun h => by cases h.1
  obtain rfl : g = g' := by injection e with e1 e2 e3; injection e1 with e4; injection e4
  exact ⟨fun j hj => hc j (by omega), hf⟩
theorem OwnB.slice {w : World} {B : Nat} {v : Value} {L : List Bool} (h : OwnB w B v L) {n : Nat} (hn : L.length = n) (hl : 0 < n) : ∃ g c, v = .slice (some ⟨g, 0, none⟩) n c ∧ B ≤ g ∧ g < w.heap.size := by
  rcases h.form with ⟨-, hz⟩ | ⟨g, c, hv, h1, h2, -⟩
  · rw [hz] at hn; simp at hn; omega
  · exact ⟨g, c, by rw [hv, hn], h1, h2⟩

set_option maxRecDepth 100000 in
set_option maxHeartbeats 3200000 in
theorem implSum_any (w : World) (v : Value) (Fs : List FM) (t0 n : Int) (h : RdFr w v Fs) (hs : Fsmall Fs) :
    Calls Try.prog 39 #[v, .int .i64 t0, .int .i64 n] w fun e w' => SumV Fs t0 n w.heap.size e w' ∧ Below w.heap.size w w' := by
  have hadd := run_fadd (P := Try.prog)
  have hst := run_store_float (P := Try.prog)
  have HK := Lib.hid (areFrames_any w v Fs h hs)
  have HP := Lib.hid (fun wq => isSpan_any wq t0 n)
  have HR := Lib.hid h
  obtain ⟨a, c, rfl, -⟩ := h.opened
  clear h
  have HN : Hid (sumOk Fs t0 n = false → ∀ w', SumV Fs t0 n w.heap.size (.returned (.tuple #[.slice none 0 0, .slice none 0 0, .bool false])) w') := Lib.hid fun hf w' => by
    refine ⟨_, _, by rw [hf], ?_, ?_⟩
    · unfold sumN'; rw [hf]; exact OwnF.nil _ _
    · unfold sumC'; rw [hf]; exact OwnI.nil _ _
  cases hp : areF Fs with
  | false =>
    have HN2 := Lib.hid (HN.out (by unfold sumOk; rw [hp]; rfl))
    rw [hp] at HK
    clear hp HR hs HN HP
    go_enter Try.func39, Try.ntmps39
    go_wp2_with fail
    refine HK.out.mono ?_
    rintro e w1 ⟨rfl, b1⟩
    go_wp2
    go_ret3
    exact ⟨HN2.out _, b1⟩
  | true =>
    cases hq : inB t0 0 100000 && inB n 1 128 with
    | false =>
      have HN2 := Lib.hid (HN.out (by unfold sumOk; rw [hp, hq]; rfl))
      rw [hp] at HK
      rw [hq] at HP
      clear hp hq HR hs HN
      go_enter Try.func39, Try.ntmps39
      go_wp2_with fail
      refine HK.out.mono ?_
      rintro e w1 ⟨rfl, b1⟩
      go_wp2_with fail
      refine (HP.out _).mono ?_
      rintro e w2 ⟨rfl, rfl⟩
      go_wp2
      go_ret3
      exact ⟨HN2.out _, b1⟩
    | true =>
      have hok : sumOk Fs t0 n = true := by unfold sumOk; rw [hp, hq]; rfl
      have hq2 := hq
      simp only [Bool.and_eq_true] at hq2
      have t1 := inB_out' hq2.1
      have t2 := inB_out' hq2.2
      obtain ⟨m, rfl⟩ : ∃ m : Nat, n = m := ⟨n.toNat, by omega⟩
      have HSA := Lib.hid (areF_sa hp hs)
      have hlen := areF_len hp
      have HG : Hid (∀ (v1 v2 : Value) (w' : World), OwnF w' w.heap.size v1 (sumN Fs t0 (stTo Fs Fs.length) m (stTo Fs Fs.length).length) → OwnI w' w.heap.size v2 (sumC Fs t0 (stTo Fs Fs.length) m (stTo Fs Fs.length).length) → SumV Fs t0 m w.heap.size (.returned (.tuple #[v1, v2, .bool true])) w') := Lib.hid fun v1 v2 w' h1 h2 => by
        refine ⟨_, _, by rw [hok], ?_, ?_⟩
        · unfold sumN'; rw [hok]; exact h1
        · unfold sumC'; rw [hok]; exact h2
      have hsl : (stTo Fs Fs.length).length ≤ 12 := Nat.le_trans (stTo_len _ _) hlen
      generalize hSS : stTo Fs Fs.length = Ss at hsl HG
      have HSS := Lib.hid hSS
      rw [hp] at HK
      rw [hq] at HP
      obtain ⟨hm1, hm2⟩ := t2
      obtain ⟨h0, h1⟩ := t1
      clear hp hq hq2 hs HN hok hSS
      go_enter Try.func39, Try.ntmps39
      go_wp2_with fail
      refine HK.out.mono ?_
      rintro e wA ⟨rfl, bA⟩
      go_wp2_with fail
      refine (HP.out _).mono ?_
      rintro e wA2 ⟨rfl, hw1⟩
      obtain rfl : wA = wA2 := hw1.symm
      clear HK HP hw1
      go_wp2_with fail
      refine region_grow_all (by kernel_rfl) (by kernel_rfl) (fun _ _ _ _ _ => False) ?_
      refine wpRelK_still rfl rfl (fun wq hq K hK => ?_)
      go_wp2
      refine wpRelK_op rfl rfl (fun wa ha K hK => ?_)
      have ga : wA.heap.size ≤ wa.heap.size := ha.1.size
      refine op_make _ _ 27 rfl 53 (.float .f32 0) 4 Try.underlying27 Try.infoF rfl _ _ _ _ m rfl rfl rfl rfl (by omega) (by decide) ?_
      intro w1 o1 x1
      refine hK _ _ x1 ?_
      clear hK K
      refine wpRelK_still rfl rfl (fun wq2 hq2 K hK => ?_)
      go_wp2
      refine wpRelK_op rfl rfl (fun wb hb K hK => ?_)
      have gb : wA.heap.size ≤ wb.heap.size := hb.1.size
      refine op_make _ _ 62 rfl 2 (.int .i64 0) 8 Try.underlying62 Try.infoI rfl _ _ _ _ m rfl rfl rfl rfl (by omega) (by decide) ?_
      intro w2 o2 x2
      refine hK _ _ x2 ?_
      clear hK K
      refine wpRelK_still rfl rfl (fun wq4 hq4 K hK => ?_)
      go_wp2
      refine wpRelK_still rfl rfl (fun wq5 hq5 K hK => ?_)
      go_wp2
      refine wpRelK_nil ?_
      intro w3 hW hall
      have E1 : Ext w1 w3 := hall 1 (by decide)
      have E2 : Ext w2 w3 := hall 3 (by decide)
      have xW : Ext w w3 := Ext.trans (Ext.trans bA (Ext.drew wA)) hW
      have zA := bA.size
      have O1 := Lib.hid ((OwnF.made o1).kept E1 |>.mono (Nat.le_trans zA ga))
      have O2 := Lib.hid ((OwnI.made o2).kept E2 |>.base (Nat.le_trans zA gb))
      have XW := Lib.hid xW
      have hne := (apart_FI O1.out O2.out) wa.heap.size rfl
      have hne : wa.heap.size ≠ wb.heap.size := fun e => hne (by rw [e]; rfl)
      have hl1 := (O1.out.lt rfl).2
      have hl2 := (OwnI.lt O2.out rfl).2
      clear hall hW E1 E2 o1 o2 x1 x2 hq hq2 hq4 hq5 ha hb xW
      have HT := Lib.hid (stations_any w3 _ Fs (HR.out.mono XW.out) hlen)
      rw [HSS.out] at HT
      obtain ⟨g1, hg1⟩ : ∃ g1, wa.heap.size = g1 := ⟨_, rfl⟩
      obtain ⟨g2, hg2⟩ : ∃ g2, wb.heap.size = g2 := ⟨_, rfl⟩
      rw [hg1] at O1 hne hl1 ga ⊢
      rw [hg2] at O2 hne hl2 gb ⊢
      clear hg1 hg2
      go_wp2_with fail
      refine HT.out.mono ?_
      rintro e w4 ⟨v3, rfl, o3, b3⟩
      have O3 := Lib.hid o3
      have hf3 := o3.form
      obtain ⟨a3, c3, rfl⟩ : ∃ a3 c3, v3 = .slice a3 Ss.length c3 := by
        rcases hf3 with ⟨rfl, hz⟩ | ⟨g, cap, rfl, -⟩
        · rw [hz]; exact ⟨_, _, rfl⟩
        · exact ⟨_, _, rfl⟩
      replace O1 := Lib.hid (O1.out.kept b3)
      replace O2 := Lib.hid (O2.out.kept b3)
      replace XW := Lib.hid (Ext.trans XW.out b3)
      clear o3 hf3 b3 HT
      have P1 : Hid (OwnF w4 w.heap.size (.slice (some ⟨g1, 0, none⟩) m m) (sumN Fs t0 Ss m 0)) := Lib.hid (by rw [sumN_zero]; exact O1.out)
      have P2 : Hid (OwnI w4 w.heap.size (.slice (some ⟨g2, 0, none⟩) m m) (sumC Fs t0 Ss m 0)) := Lib.hid (by rw [sumC_zero]; exact O2.out)
      clear O1 O2
      go_wp2_with fail
      go_loopw [33] (fun i wr => ∃ j : Nat, j ≤ Ss.length ∧ i = .int .i64 j ∧ OwnF wr w.heap.size (.slice (some ⟨g1, 0, none⟩) m m) (sumN Fs t0 Ss m j) ∧ OwnI wr w.heap.size (.slice (some ⟨g2, 0, none⟩) m m) (sumC Fs t0 Ss m j) ∧ OwnI wr w3.heap.size (.slice a3 Ss.length c3) Ss ∧ Below w.heap.size w wr) (fun i _ => Ss.length - (intOf i).toNat)
      case atStart => exact ⟨0, Nat.zero_le _, rfl, P1.out, P2.out, O3.out, XW.out⟩
      case round =>
        clear P1 P2 O3 XW
        obtain ⟨wi, rfl⟩ : ∃ wi : World, wi = wr := ⟨_, rfl⟩
        obtain ⟨j, hj, rfl, p1, p2, o3, bw⟩ := hrel
        have P1 := Lib.hid p1
        have P2 := Lib.hid p2
        have O3 := Lib.hid o3
        have BW := Lib.hid bw
        have hzi := bw.size
        have hzi2 : j < Ss.length → w3.heap.size ≤ wi.heap.size := fun hlt => by
          rcases o3.form with ⟨-, hz⟩ | ⟨g, cap, -, h1, h2, -⟩
          · rw [hz] at hlt; cases hlt
          · omega
        clear p1 p2 bw
        by_cases hlt : j < Ss.length
        · obtain ⟨g, cap, hv, -, -, -, hcell, -⟩ := o3.form.resolve_left fun h => by rw [h.2] at hlt; cases hlt
          obtain ⟨rfl, rfl⟩ : a3 = some ⟨g, 0, none⟩ ∧ c3 = cap := by cases hv; exact ⟨rfl, rfl⟩
          have hc0 := hcell j hlt
          have hz2 := hzi2 hlt
          have HO := Lib.hid (fill_any wi _ Fs (inL Ss j) t0 m (HR.out.mono BW.out) hlen HSA.out h0 h1 (by omega))
          have HY : Hid (∀ k : Nat, (atF (ofF Fs (inL Ss j)) (t0 + k)).2 = true → sumJ Fs t0 Ss k (j + 1) = (fop .add .f32 (sumJ Fs t0 Ss k j).1 (atF (ofF Fs (inL Ss j)) (t0 + k)).1, (sumJ Fs t0 Ss k j).2 + 1)) := Lib.hid fun k hk => sumJ_yes hk
          have HX : Hid (∀ k : Nat, (atF (ofF Fs (inL Ss j)) (t0 + k)).2 = false → sumJ Fs t0 Ss k (j + 1) = sumJ Fs t0 Ss k j) := Lib.hid fun k hk => sumJ_no hk
          clear hv hcell hzi2 o3
          generalize inL Ss j = s at *
          go_wp2_with fail
          refine HO.out.mono ?_
          clear HO
          rintro e w5 ⟨v5, v6, rfl, o5, o6, b5⟩
          have O5 := Lib.hid o5
          have O6 := Lib.hid o6
          obtain ⟨g5, c5, hv5, hg5, -⟩ := o5.at_block (filN_length _ _ _ _) (by omega)
          obtain ⟨g6, c6, hv6, hg6, -⟩ := o6.slice (filB_length _ _ _ _) (by omega)
          subst hv5 hv6
          replace P1 := Lib.hid (P1.out.kept b5)
          replace P2 := Lib.hid (P2.out.kept b5)
          replace O3 := Lib.hid (O3.out.kept b5)
          have hz5 := b5.size
          replace BW := Lib.hid (BW.out.trans (b5.mono hzi))
          clear o5 o6 b5 hc0
          go_wp2_with fail
          go_loopw [47] (fun i wr => ∃ k : Nat, k ≤ m ∧ i = .int .i64 k ∧ OwnF wr w.heap.size (.slice (some ⟨g1, 0, none⟩) m m) (mixTo (sumN Fs t0 Ss m (j + 1)) (sumN Fs t0 Ss m j) k) ∧ OwnI wr w.heap.size (.slice (some ⟨g2, 0, none⟩) m m) (mixI (sumC Fs t0 Ss m (j + 1)) (sumC Fs t0 Ss m j) k) ∧
            OwnI wr w3.heap.size (.slice (some ⟨g, 0, none⟩) Ss.length c3) Ss ∧ OwnF wr wi.heap.size (.slice (some ⟨g5, 0, none⟩) m c5) (filN Fs s t0 m) ∧ OwnB wr wi.heap.size (.slice (some ⟨g6, 0, none⟩) m c6) (filB Fs s t0 m) ∧ Below w.heap.size w wr) (fun i _ => m - (intOf i).toNat)
          case atStart => exact ⟨0, Nat.zero_le _, rfl, by rw [mixTo_zero]; exact P1.out, by rw [mixI_zero]; exact P2.out, O3.out, O5.out, O6.out, BW.out⟩
          case round =>
            clear P1 P2 O3 O5 O6 BW
            obtain ⟨wk, rfl⟩ : ∃ wk : World, wk = wr := ⟨_, rfl⟩
            obtain ⟨k, hk, rfl, p1, p2, o3, o5, o6, bw⟩ := hrel
            have P1 := Lib.hid p1
            have P2 := Lib.hid p2
            have O3 := Lib.hid o3
            have O5 := Lib.hid o5
            have O6 := Lib.hid o6
            have BW := Lib.hid bw
            have hzk := bw.size
            by_cases hlt2 : k < m
            · have HYk := Lib.hid (HY.out k)
              have HXk := Lib.hid (HX.out k)
              obtain ⟨hc1, hf1⟩ := p1.cells (by rw [mixTo_length, sumN_length])
              obtain ⟨hc2, hf2⟩ := p2.cells (by rw [mixI_length, sumC_length])
              obtain ⟨hc5, -⟩ := o5.cells (filN_length _ _ _ _)
              obtain ⟨hc6, -⟩ := o6.cells (filB_length _ _ _ _)
              obtain ⟨r0, hr0, hr1⟩ := hc1 k hlt2
              obtain ⟨r5, hr5, hr⟩ := hc5 k hlt2
              have hb6 := hc6 k hlt2
              have hi0 := hc2 k hlt2
              rw [filN_at _ _ _ _ _ hlt2] at hr
              rw [filB_at _ _ _ _ _ hlt2] at hb6
              rw [mixTo_getD _ _ _ _ (by rw [sumN_length]; exact hlt2), if_neg (Nat.lt_irrefl k), sumN_at _ _ _ _ _ _ hlt2] at hr1
              rw [mixI_at _ _ _ _ (by rw [sumC_length]; exact hlt2), if_neg (Nat.lt_irrefl k), sumC_at _ _ _ _ _ _ hlt2] at hi0
              have hff1 := hf1 k
              have hff2 := hf2 k
              obtain ⟨hle0, hle1⟩ := sumJ_le Fs t0 Ss k j
              have HC1 := Lib.hid (sumN_at Fs t0 Ss m (j + 1) k hlt2)
              have HC2 := Lib.hid (sumC_at Fs t0 Ss m (j + 1) k hlt2)
              have HD1 := Lib.hid (sumN_at Fs t0 Ss m j k hlt2)
              have HD2 := Lib.hid (sumC_at Fs t0 Ss m j k hlt2)
              clear p1 p2 o3 o5 o6 bw hc1 hc2 hf1 hf2 hc5 hc6
              generalize hq : atF (ofF Fs s) (t0 + k) = q at *
              obtain ⟨qx, qb⟩ := q
              obtain ⟨y, hy⟩ : ∃ y, sumJ Fs t0 Ss k j = y := ⟨_, rfl⟩
              rw [hy] at *
              obtain ⟨yx, yn⟩ := y
              clear hq hy
              simp only at *
              cases qb with
              | false =>
                have hxx := Lib.hid (HXk.out rfl)
                go_wp2_with fail
                refine ⟨⟨k + 1, by omega, by go_num, ?_, ?_, O3.out, O5.out, O6.out, BW.out⟩, by simp [intOf]; omega⟩
                · rw [← mixTo_skip _ _ _ (by rw [HC1.out, HD1.out, hxx.out])]
                  exact P1.out
                · rw [← mixI_skip _ _ _ (by rw [HC2.out, HD2.out, hxx.out])]
                  exact P2.out
              | true =>
                have hxx := HYk.out rfl
                have HF := FV.op (op := .add) hr1 hr wk
                have bd : Below wk.heap.size wk (wk.drewN (fcnt .add .f32 r0 r5)) := Below.drewN (Below.refl _ _) _
                obtain ⟨q1, q2, q3⟩ := add_step hne (P1.out.kept bd) (P2.out.kept bd) (sumN_length _ _ _ _ _) (sumC_length _ _ _ _ _) HF (by rw [HC1.out, hxx]) (by rw [HC2.out, hxx])
                have HQ1 := Lib.hid q1
                have HQ2 := Lib.hid q2
                have HQ3 := Lib.hid q3
                clear q1 q2 q3 hxx HF hr1 hr HXk HYk P1 P2
                go_wp2_with fail
                refine ⟨⟨k + 1, by omega, by go_num, HQ1.out, HQ2.out, ?_, ?_, ?_, ?_⟩, by simp [intOf]; omega⟩
                · exact (O3.out.kept bd).chg HQ3.out fun q hq e => by have := (O3.out.lt hq).1; omega
                · exact (O5.out.kept bd).chg HQ3.out fun q hq e => by have := (O5.out.lt hq).1; omega
                · exact (O6.out.kept bd).chg HQ3.out fun q hq e => by have := (O6.out.lt hq).1; omega
                · exact Below.chg (BW.out.trans (bd.mono hzk)) HQ3.out (fun q hq => by omega) hzk
            · obtain rfl : k = m := by omega
              clear p1 p2 o3 o5 o6 bw
              go_wp2_with fail
              refine ⟨⟨j + 1, by omega, by go_num, ?_, ?_, O3.out, BW.out⟩, by simp [intOf]; omega⟩
              · have := P1.out
                rwa [mixTo_all _ _ _ (by rw [sumN_length]; exact Nat.le_refl _) (by rw [sumN_length, sumN_length])] at this
              · have := P2.out
                rwa [mixI_all _ _ _ (by rw [sumC_length]; exact Nat.le_refl _) (by rw [sumC_length, sumC_length])] at this
        · obtain rfl : j = Ss.length := by omega
          clear o3 hzi2
          go_wp2_with fail
          go_ret3
          exact ⟨HG.out _ _ _ P1.out P2.out, BW.out⟩
end Go.Proofs.Ytibojlpeaolfbaa

/- Walks: the lists of frames that the laws draw; frames that are sorted, those of a station. -/
namespace Go.Proofs.Ytibojlpeaolfbaa
open Go Go.RowKit

theorem RdEs.grow {w w' : World} {o : Value} {Es : List FE} (h : RdEs w Es) (hs : SepE w o Es) (g : w.grownBy w' o.ownBlock) : RdEs w' Es :=
  h.sep hs (Chg.of_grown g fun b hb => hb)
theorem RdF.low {w : World} {v : Value} {L : List Nat} (h : RdF w v L) : ∀ ad, (∃ n c, v = .slice (some ad) n c) → 0 < L.length → ad.block < w.heap.size := by
  rintro ad ⟨n, c, rfl⟩ hl
  obtain ⟨b, o, c', hv, -, hlt, -⟩ := h.at_block hl
  cases hv; exact hlt
theorem RdEs.chg {w w' : World} {S : Nat → Prop} {B : Nat} {Es : List FE} (h : RdEs w Es) (hb : BaseE B Es) (hc : Chg w w' S) (hS : ∀ k, S k → k < B) : RdEs w' Es :=
  fun e he => (h e he).sep (fun ad ha hk => by have := hb e he ad ha; have := hS _ hk; omega) hc

set_option maxRecDepth 100000 in
set_option maxHeartbeats 3200000 in
theorem b10FramesD_any (w : World) (v : Value) (n : Nat) (hy : RdY w v n) (hn : n ≤ 1048576) :
    Calls Try.prog 9 #[v] w fun e w' => ∃ (v' : Value) (Es : List FE), e = .returned v' ∧ OwnR w' w.heap.size v' Es ∧ RdEs w' Es ∧ BaseE w.heap.size Es ∧ (∀ x ∈ Es, Ev x.f) ∧ Es.length ≤ 5 ∧ Below w.heap.size w w' := by
  obtain ⟨ad, c, rfl, -, -⟩ := hy.opened
  have HY := Lib.hid hy
  clear hy
  go_enter Try.func9, Try.ntmps9
  go_wp2_with fail
  refine (l00From_any w ad n c).mono ?_
  rintro e w1 ⟨rfl, hw1⟩
  have b1 : Below w.heap.size w w1 := by rw [hw1]; exact (Below.refl _ _).alloc (Nat.le_refl _) _
  have z1 : w1.heap.size = w.heap.size + 1 := by rw [hw1]; exact World.size_alloc _ _
  have hs1 : Src w1 w.heap.size ad n c 0 := ⟨0, by rw [hw1]; exact alloc_new _ _, by decide, by decide⟩
  have B2 : Hid (Below w.heap.size w (w1.alloc (.cells #[] 31))) := Lib.hid (b1.trans ((Below.refl _ _).alloc (by omega) _))
  have x2 : Ext w1 (w1.alloc (.cells #[] 31)) := (Below.refl _ _).alloc (Nat.le_refl _) _
  have S2 := Lib.hid (hs1.kept (x2.block _ (by omega)))
  have O2 : Hid (OwnR (w1.alloc (.cells #[] 31)) (w.heap.size + 1) (.slice (some ⟨w1.heap.size, 0, none⟩) 0 0) []) := Lib.hid ⟨rfl, .inr ⟨w1.heap.size, 0, #[], rfl, by omega, alloc_new _ _, Nat.le_refl _, by decide, rfl, rfl⟩⟩
  clear hw1 b1 hs1 x2
  go_wp2_with fail
  have HP := Lib.hid (pick_any _ w.heap.size ad n c 0 6 S2.out (HY.out.mono B2.out) hn (by omega) (by omega) (by decide) (by decide))
  refine HP.out.mono ?_
  rintro e w3 ⟨N0, rfl, hN0, hN1, s3, c3⟩
  obtain ⟨N, rfl⟩ : ∃ N : Nat, N0 = N := ⟨N0.toNat, by omega⟩
  have z3 := c3.size
  have z2 : (w1.alloc (.cells #[] 31)).heap.size = w.heap.size + 2 := by rw [World.size_alloc]; omega
  have B3 := Lib.hid (Below.chg B2.out c3 (fun k hk => by omega) B2.out.size)
  have S3 := Lib.hid s3
  have O3 : Hid (OwnR w3 (w.heap.size + 1) (.slice (some ⟨w1.heap.size, 0, none⟩) 0 0) []) := Lib.hid (O2.out.chg c3 fun k hk => by omega)
  clear HP S2 B2 O2 s3 c3
  rw [z1] at O3
  go_wp2_with fail
  go_loopw [4, 5] (fun o q wr => ∃ (j : Nat) (Es : List FE) (t : Int), j ≤ N ∧ Es.length = j ∧ q = .int .i64 ((N : Int) - j) ∧ OwnR wr (w.heap.size + 1) o Es ∧ RdEs wr Es ∧ SepE wr o Es ∧ BaseE (w.heap.size + 1) Es ∧ (∀ x ∈ Es, Ev x.f) ∧ Src wr w.heap.size ad n c t ∧ 0 ≤ t ∧ t ≤ 1 + 20 * j ∧ Below w.heap.size w wr) (fun _ q _ => (intOf q).toNat)
  case atStart => exact ⟨0, [], _, by omega, rfl, by simp, O3.out, (fun e he => by cases he), (fun e he => by cases he), BaseE.nil _, (fun e he => by cases he), S3.out, by omega, by omega, B3.out⟩
  case round =>
    clear O3 S3 B3
    obtain ⟨wi, rfl⟩ : ∃ wi : World, wi = wr := ⟨_, rfl⟩
    obtain ⟨j, Es, t, hj, hlE, rfl, ho, hr, hsp, hbe, hev, hs, ht0, ht1, hb⟩ := hrel
    have HO := Lib.hid ho
    have HR := Lib.hid hr
    have HSP := Lib.hid hsp
    have HBE := Lib.hid hbe
    have HEV := Lib.hid hev
    have HB := Lib.hid hb
    have HLE := Lib.hid hlE
    have hzi := hs.lt
    by_cases hlt : j < N
    · have HP := Lib.hid (drawFrame_any w wi w.heap.size ad n c t HY.out hb (Nat.le_refl _) hs hn ht0 (by omega))
      have hgt : ((N : Int) - j) > 0 := by omega
      clear ho hr hsp hbe hev hs hb hlE
      go_wp2_with fail
      refine HP.out.mono ?_
      rintro e w3 ⟨f, v3, t', rfl, ev, o3, s3, h1, h2, b3, c3⟩
      clear HP
      obtain ⟨st, sa, L⟩ := f
      obtain ⟨a3, cc, rfl, -, -, -⟩ := o3.rd.opened
      have hz3 := c3.size
      have hb7 : ∀ ad, a3 = some ad → wi.heap.size ≤ ad.block ∧ ad.block < w3.heap.size := fun ad ha => ownF_at o3 ad ha
      have H3 := Lib.hid o3.rd
      have HEv := Lib.hid ev
      have S3 := Lib.hid s3
      have B3 := Lib.hid b3
      have O3 : Hid (OwnR w3 (w.heap.size + 1) u4 Es) := Lib.hid (HO.out.chg c3 fun k hk => by omega)
      have R3 := Lib.hid (HR.out.chg HBE.out c3 fun k hk => by omega)
      have P3 := Lib.hid (HSP.out.mono c3.size)
      have hul : ∀ k, u4.ownBlock = some k → k < wi.heap.size := fun k hk => (World.ownsRow.lt HO.out k hk).2
      have hul2 : ∀ k, u4.ownBlock = some k → w.heap.size + 1 ≤ k := fun k hk => (World.ownsRow.lt HO.out k hk).1
      have HUL := Lib.hid hul
      have HUL2 := Lib.hid hul2
      have HB7 := Lib.hid hb7
      clear o3 ev s3 b3 c3 HO HR HSP HB hul hul2 hb7
      have bla : Ext w3 (w3.alloc (.cells #[.int .i64 st, .int .i64 sa, .slice a3 L.length cc] 31)) := (Below.refl _ _).alloc (Nat.le_refl _) _
      have hza : (w3.alloc (.cells #[.int .i64 st, .int .i64 sa, .slice a3 L.length cc] 31)).heap.size = w3.heap.size + 1 := World.size_alloc _ _
      have hY := Lib.hid (entry_block (w := w3.alloc (.cells #[.int .i64 st, .int .i64 sa, .slice a3 L.length cc] 31)) (g := w3.heap.size) ⟨⟨st, sa, L⟩, a3, cc⟩ (alloc_new _ _))
      have hEl : Es.length + 1 ≤ 100000 := by rw [HLE.out]; omega
      go_wp2_with (at_builtin; go_must (refine wpList_pushR rfl _ _ rfl (w.heap.size + 1) _ Es rfl (OwnR.kept O3.out bla) _ _ _ [⟨⟨st, sa, L⟩, a3, cc⟩] rfl rfl hY.out hEl (by omega) ?_); intro v4 w4 o4 g4 b4 l4)
      have z4 := b4.size
      have HL2 : ∀ k, u4.ownBlock = some k → k < wi.heap.size ∧ w.heap.size + 1 ≤ k := fun k hk => ⟨HUL.out k hk, HUL2.out k hk⟩
      refine ⟨⟨j + 1, Es ++ [⟨⟨st, sa, L⟩, a3, cc⟩], t', by omega, by rw [List.length_append, HLE.out]; rfl, by congr 1; omega, o4, ?_, ?_, ?_, ?_, ?_, by omega, by omega, ?_⟩, by simp [intOf]; omega⟩
      · intro e he
        rcases List.mem_append.1 he with h | h
        · exact ((R3.out.mono bla).grow (P3.out.mono bla.size) g4) e h
        · obtain rfl := List.mem_singleton.1 h
          exact (H3.out.mono bla).sep (fun ad ha hk => by have := (HB7.out ad ha).1; have := (HL2 _ hk).1; omega) (Chg.of_grown g4 fun b hb => hb)
      · intro e he ad ha
        have hlt2 : ad.block < w3.heap.size ∧ u4.ownBlock ≠ some ad.block := by
          rcases List.mem_append.1 he with h | h
          · exact P3.out e h ad ha
          · obtain rfl := List.mem_singleton.1 h
            have := HB7.out ad ha
            exact ⟨this.2, fun hk => by have := (HL2 _ hk).1; omega⟩
        refine ⟨by omega, fun hk => ?_⟩
        rcases l4 with h | h
        · rw [h] at hk; exact hlt2.2 hk
        · rw [h] at hk; have := Option.some.inj hk; omega
      · intro e he ad ha
        rcases List.mem_append.1 he with h | h
        · exact HBE.out e h ad ha
        · obtain rfl := List.mem_singleton.1 h
          have := (HB7.out ad ha).1
          omega
      · intro x hx
        rcases List.mem_append.1 hx with h | h
        · exact HEV.out x h
        · obtain rfl := List.mem_singleton.1 h
          exact HEv.out
      · have hg3 := S3.out.lt
        exact S3.out.kept (by rw [g4.block w.heap.size (by omega) fun e => by have := (HL2 _ e.symm).2; omega, bla.block w.heap.size hg3])
      · exact Below.trans (B3.out.trans (bla.mono B3.out.size)) (b4.mono (by omega))
    · obtain rfl : N = j := by omega
      have hgt : ¬ ((N : Int) - N) > 0 := by omega
      clear ho hr hsp hbe hev hs hb hlE
      go_wp2_with fail
      go_ret
      exact ⟨_, rfl, Es, ownsRow_lower HO.out (by omega), HR.out, HBE.out.low (by omega), HEV.out, by rw [HLE.out]; omega, HB.out⟩
end Go.Proofs.Ytibojlpeaolfbaa

/- Walks: SortFrames, OfStation, SpanOf, LateFrames of frames of which none is late. -/
namespace Go.Proofs.Ytibojlpeaolfbaa
open Go Go.RowKit

theorem map_feAt (Es : List FE) (j : Nat) (h : j < Es.length) : frAt (Es.map FE.f) j = (feAt Es j).f := by
  simp [frAt, feAt, List.getD_eq_getElem?_getD, List.getElem?_eq_getElem h]
/-- A row of entries is read as a list of frames. -/
theorem OwnR.rdFr {w : World} {B : Nat} {v : Value} {Es : List FE} (h : OwnR w B v Es) (hr : RdEs w Es) : RdFr w v (Es.map FE.f) := by
  rcases h.form with ⟨rfl, rfl⟩ | ⟨g, cap, rfl, hB, hgs, hcap, hc, -⟩
  · exact ⟨none, 0, rfl, Nat.le_refl _, fun _ => rfl, fun j hj => by cases hj⟩
  · refine ⟨some ⟨g, 0, none⟩, cap, by rw [List.length_map], by rw [List.length_map]; exact hcap, (fun h => by cases h), fun j hj => ?_⟩
    rw [dsF_length, List.length_map] at hj
    obtain ⟨c0, c1, c2⟩ := hc (j / 3) (by omega)
    have e := dsF_at (Es.map FE.f) (j / 3) (j % 3) (by rw [List.length_map]; omega) (Nat.mod_lt _ (by decide))
    rw [show j / 3 * 3 + j % 3 = j by omega, map_feAt _ _ (by omega)] at e
    have hR := hr _ (feAt_mem (show j / 3 < Es.length by omega))
    have hlt : j % 3 < 3 := Nat.mod_lt _ (by decide)
    have ej : j = j / 3 * 3 + j % 3 := by omega
    rw [e]
    generalize j / 3 = q at *
    generalize j % 3 = i at *
    subst ej
    match i, hlt with
    | 0, _ => exact ⟨g, 0, _, rfl, by rw [Nat.zero_add]; exact c0, rfl⟩
    | 1, _ => exact ⟨g, 0, _, rfl, by rw [Nat.zero_add]; exact c1, rfl⟩
    | 2, _ => exact ⟨g, 0, _, rfl, by rw [Nat.zero_add]; exact c2, hR⟩

set_option maxRecDepth 100000 in
set_option maxHeartbeats 800000 in
theorem sortFrames_any (w : World) (v : Value) (Fs : List FM) (h : RdFr w v Fs) (hs : Fsmall Fs) (hq : areF Fs = true) :
    Calls Try.prog 37 #[v] w fun e w' => ∃ (v' : Value) (Es : List FE), e = .returned (.tuple #[v', .bool true]) ∧ OwnR w' w.heap.size v' Es ∧ RdEs w' Es ∧ SepE w' v' Es ∧ Es.map FE.f = sortF Fs ∧ Below w.heap.size w w' ∧ BaseE w.heap.size Es := by
  have HK := Lib.hid (areFrames_any w v Fs h hs)
  rw [hq] at HK
  have hl := areF_len hq
  have HS := Lib.hid hs
  have HR := Lib.hid h
  obtain ⟨a, c, rfl, -⟩ := h.opened
  clear h hs hq
  go_enter Try.func37, Try.ntmps37
  go_wp2_with fail
  refine HK.out.mono ?_
  rintro e w1 ⟨rfl, b1⟩
  have HK2 := Lib.hid (sorted_any w1 _ Fs (HR.out.mono b1) hl HS.out.2)
  have z1 := b1.size
  clear HK
  go_wp2_with fail
  refine HK2.out.mono ?_
  rintro e w2 ⟨v', Es, rfl, o2, r2, s2, hes, b2, be⟩
  have HO := Lib.hid (And.intro o2 (And.intro r2 (And.intro s2 (And.intro hes be))))
  clear HK2 o2 r2 s2 hes be
  go_wp2
  go_ret2
  obtain ⟨o2, r2, s2, hes, be⟩ := HO.out
  exact ⟨_, Es, rfl, ownsRow_lower o2 z1, r2, s2, hes, b1.trans (b2.mono z1), be.low z1⟩
set_option maxRecDepth 100000 in
set_option maxHeartbeats 800000 in
theorem ofStationP_any (w : World) (v : Value) (s : Int) (Fs : List FM) (h : RdFr w v Fs) (hs : Fsmall Fs) (hq : areF Fs = true) (hs0 : 0 ≤ s) (hs1 : s ≤ 200) :
    Calls Try.prog 41 #[v, .int .i64 s] w fun e w' => ∃ (v' : Value) (Es : List FE), e = .returned (.tuple #[v', .bool true]) ∧ OwnR w' w.heap.size v' Es ∧ RdEs w' Es ∧ Es.map FE.f = ofF Fs s ∧ Below w.heap.size w w' ∧ BaseE w.heap.size Es := by
  have hin : inB s 0 200 = true := by unfold inB; simp; omega
  have HK := Lib.hid (isStation_any w v Fs s h hs)
  rw [hq, hin] at HK
  have hl := areF_len hq
  have HS := Lib.hid hs
  have HR := Lib.hid h
  obtain ⟨a, c, rfl, -⟩ := h.opened
  clear h hs hq hin
  go_enter Try.func41, Try.ntmps41
  go_wp2_with fail
  refine HK.out.mono ?_
  rintro e w1 ⟨rfl, b1⟩
  have HK2 := Lib.hid (ofStation_any w1 _ s Fs (HR.out.mono b1) hl HS.out.2)
  have z1 := b1.size
  clear HK
  go_wp2_with fail
  refine HK2.out.mono ?_
  rintro e w2 ⟨v', Es, rfl, o2, r2, hes, b2, be⟩
  have HO := Lib.hid (And.intro o2 (And.intro r2 (And.intro hes be)))
  clear HK2 o2 r2 hes be
  go_wp2
  go_ret2
  obtain ⟨o2, r2, hes, be⟩ := HO.out
  exact ⟨_, Es, rfl, ownsRow_lower o2 z1, r2, hes, b1.trans (b2.mono z1), be.low z1⟩

theorem spE_le (Ms : List FM) (hs : Fsa Ms) (hn : 0 < Ms.length) (j : Nat) (hj : j ≤ Ms.length) : 0 ≤ spE Ms j ∧ spE Ms j ≤ 2000000 := by
  induction j with
  | zero =>
    obtain ⟨h1, h2, h3⟩ := hs 0 hn
    show 0 ≤ fEnd (frAt Ms 0) ∧ fEnd (frAt Ms 0) ≤ 2000000
    unfold fEnd; omega
  | succ j ih =>
    have := ih (by omega)
    obtain ⟨h1, h2, h3⟩ := hs j (by omega)
    show 0 ≤ maxI (spE Ms j) (fEnd (frAt Ms j)) ∧ maxI (spE Ms j) (fEnd (frAt Ms j)) ≤ 2000000
    unfold maxI fEnd
    split <;> omega
set_option maxRecDepth 100000 in
set_option maxHeartbeats 1600000 in
theorem spanOf_any (w : World) (v : Value) (s : Int) (Fs : List FM) (h : RdFr w v Fs) (hs : Fsmall Fs) (hq : areF Fs = true) (hs0 : 0 ≤ s) (hs1 : s ≤ 200) (hpos : 0 < (ofF Fs s).length) :
    Calls Try.prog 42 #[v, .int .i64 s] w fun e w' => e = .returned (.tuple #[.int .i64 (frAt (ofF Fs s) 0).sa, .int .i64 (spE (ofF Fs s) (ofF Fs s).length), .bool true]) ∧ Below w.heap.size w w' := by
  have hin : inB s 0 200 = true := by unfold inB; simp; omega
  have HK := Lib.hid (isStation_any w v Fs s h hs)
  rw [hq, hin] at HK
  have hl := areF_len hq
  have HSA := Lib.hid (ofF_sa s (areF_sa hq hs))
  have hlo := ofF_length Fs s
  have HS := Lib.hid hs
  have HR := Lib.hid h
  obtain ⟨a, c, rfl, -⟩ := h.opened
  clear h hs hq hin
  go_enter Try.func42, Try.ntmps42
  go_wp2_with fail
  refine HK.out.mono ?_
  rintro e w1 ⟨rfl, b1⟩
  have HK2 := Lib.hid (ofStation_any w1 _ s Fs (HR.out.mono b1) hl HS.out.2)
  have z1 := b1.size
  clear HK
  go_wp2_with fail
  refine HK2.out.mono ?_
  rintro e w2 ⟨v2, Es, rfl, o2, r2, hes, b2, be⟩
  have O2 := Lib.hid o2
  have HLE : Hid (Es.length = (ofF Fs s).length) := Lib.hid (by rw [← hes, List.length_map])
  have HFE : Hid (∀ j, j < Es.length → (feAt Es j).f = frAt (ofF Fs s) j) := Lib.hid fun j hj => by rw [← hes, map_feAt _ _ hj]
  obtain ⟨Ms, hMs⟩ : ∃ Ms, ofF Fs s = Ms := ⟨_, rfl⟩
  have HMs := Lib.hid hMs
  rw [hMs] at HLE HFE HSA hlo hpos
  have B2 := Lib.hid (b1.trans (b2.mono z1))
  obtain ⟨n, hn⟩ : ∃ n, Es.length = n := ⟨_, rfl⟩
  have hnM := HLE.out
  rw [hn] at hnM HFE
  have HNM := Lib.hid hnM
  rw [← hnM] at hpos hlo
  rcases o2.form with ⟨-, h0⟩ | ⟨g, cap, rfl, -, hgs, hcap, hcell, -⟩
  · rw [h0] at hn; simp at hn; omega
  have HC : Hid (∀ wq, Ext w2 wq → ∀ j, j < n → ∃ y : FM, ∃ a' c', y = frAt Ms j ∧ wq.cell? ⟨g, j * 3, none⟩ = some (.int .i64 y.st) ∧ wq.cell? ⟨g, j * 3 + 1, none⟩ = some (.int .i64 y.sa) ∧ wq.cell? ⟨g, j * 3 + 2, none⟩ = some (.slice a' y.L.length c') ∧ 0 ≤ y.sa ∧ y.sa ≤ 100000 ∧ y.L.length ≤ 1048576) := Lib.hid fun wq hq j hj => by
    obtain ⟨m0, m1, m2⟩ := hcell j (by omega)
    have e := HFE.out j hj
    obtain ⟨s1, s2, s3⟩ := HSA.out j (by omega)
    exact ⟨(feAt Es j).f, (feAt Es j).a, (feAt Es j).c, e, ((bcell hq).1 _ _ hgs).trans m0, ((bcell hq).1 _ _ hgs).trans m1, ((bcell hq).1 _ _ hgs).trans m2, by rw [e]; exact s1, by rw [e]; exact s2, by rw [e]; exact s3⟩
  rw [hn]
  have HBd := Lib.hid (spE_le Ms HSA.out (by omega))
  have hnpos : 0 < n := by omega
  have hn12 : n ≤ 12 := by omega
  obtain ⟨y0, a0, c0, hy0, k0, k1, k2, p0, p1, p2⟩ := HC.out w2 (Ext.refl _) 0 hnpos
  have HY0 := Lib.hid hy0
  have HE0 : Hid (spE Ms 0 = y0.sa + (y0.L.length : Nat)) := Lib.hid (by rw [hy0]; rfl)
  rw [Nat.zero_mul] at k0 k1 k2
  clear o2 r2 hes b2 be HK2 hMs HFE hcell hy0 b1
  obtain ⟨st0, sa0, L0⟩ := y0
  simp only at *
  have hnz : (n : Int) ≠ 0 := by omega
  have HF := Lib.hid (frameEnd_any w2 st0 sa0 a0 L0.length c0 p0 p1 p2)
  rw [← HE0.out] at HF
  clear p2
  go_wp2_with fail
  refine HF.out.mono ?_
  rintro e w3 ⟨rfl, b3⟩
  have B3 := Lib.hid b3
  clear b3 HF
  go_wp2_with fail
  go_loopw [8, 27] (fun q i wr => ∃ j : Nat, j ≤ n ∧ i = .int .i64 j ∧ q = .int .i64 (spE Ms j) ∧ Below w2.heap.size w2 wr) (fun _ i _ => n - (intOf i).toNat)
  case atStart => exact ⟨0, Nat.zero_le _, rfl, rfl, B3.out⟩
  case round =>
    obtain ⟨wi, rfl⟩ : ∃ wi : World, wi = wr := ⟨_, rfl⟩
    obtain ⟨j, hj, rfl, rfl, ch⟩ := hrel
    have CH := Lib.hid ch
    have hzi := ch.size
    by_cases hlt : j < n
    · obtain ⟨y, a', c', hy, m0, m1, m2, s1, s2, s3⟩ := HC.out wi ch j hlt
      have HE : Hid (spE Ms (j + 1) = maxI (spE Ms j) (y.sa + (y.L.length : Nat))) := Lib.hid (by rw [hy]; rfl)
      clear hy ch k0 k1 k2
      obtain ⟨st, sa, L⟩ := y
      simp only at *
      obtain ⟨e1, e2⟩ := HBd.out j (by omega)
      generalize spE Ms j = E at *
      have HF := Lib.hid (fun wq => frameEnd_any wq st sa a' L.length c' s1 s2 s3)
      have xf : Below wi.heap.size wi (wi.alloc (.cells #[.int .i64 st, .int .i64 sa, .slice a' L.length c'] 31)) := (Below.refl _ _).alloc (Nat.le_refl _) _
      have XF := Lib.hid xf
      clear xf
      go_wp2_with fail
      refine (HF.out _).mono ?_
      rintro e w7 ⟨rfl, b7⟩
      have b8 := XF.out.trans (b7.mono XF.out.size)
      have B8 := Lib.hid b8
      clear b7 b8
      go_wp2_with fail
      exact ⟨⟨j + 1, by omega, by go_num, by rw [HE.out, maxI_eq], CH.out.trans (B8.out.mono hzi)⟩, by simp [intOf]; omega⟩
    · obtain rfl : j = n := by omega
      obtain ⟨y, a', c', hy, m0, m1, m2, -, -, -⟩ := HC.out wi ch 0 hnpos
      rw [Nat.zero_mul] at m0 m1 m2
      have HY : Hid (y.sa = (frAt Ms 0).sa) := Lib.hid (by rw [hy])
      clear hy ch
      go_wp2_with fail
      go_ret3
      exact ⟨by rw [HMs.out, HY.out, ← HNM.out]; rfl, B2.out.trans (CH.out.mono B2.out.size)⟩
end Go.Proofs.Ytibojlpeaolfbaa

/- Walks: LateFrames of frames of which none is late. -/
namespace Go.Proofs.Ytibojlpeaolfbaa
open Go Go.RowKit

set_option maxRecDepth 100000 in
set_option maxHeartbeats 800000 in
theorem late1_any (w : World) (st sa : Int) (u : Value) (hu : u.oneCell' = true) (b0 : Nat) (s t : Int) (x : Value) (hb0 : w.heap[b0]? = some (.cells #[.int .i64 s, .int .i64 t, x] 31 (0, 0))) (hno : ¬ (st = s ∧ sa > t)) :
    Calls Try.prog 79 #[.agg #[.int .i64 st, .int .i64 sa, u], .pointer (some ⟨b0, 0, none⟩)] w fun e w' => e = .returned (.bool false) ∧ Ext w w' := by
  have hbl := (Array.getElem?_eq_some_iff.1 hb0).1
  obtain ⟨W, hW⟩ : ∃ W, w.alloc (.cells #[.int .i64 st, .int .i64 sa, u] 31) = W := ⟨_, rfl⟩
  have hG : Ext w W := by rw [← hW]; exact (Below.refl _ _).alloc (Nat.le_refl _) _
  obtain ⟨k0, k1, -, -, -, -⟩ := blk3 (w := W) (g := w.heap.size) (t := 31) (a := .int .i64 st) (b := .int .i64 sa) (c := u) (by rw [← hW]; exact alloc_new _ _)
  obtain ⟨m0, m1, -, -, -, -⟩ := blk3 ((hG.block b0 hbl).trans hb0)
  have HG := Lib.hid hG
  clear hG hb0
  by_cases h1 : st = s
  · have h2 : ¬ sa > t := fun h => hno ⟨h1, h⟩
    have hd1 : (st == s) = true := by simp [h1]
    have hd2 : decide (sa > t) = false := by simp; omega
    subst h1
    go_enter Try.func79, Try.ntmps79
    go_wp2
    go_ret
    exact ⟨by simp [hd2], HG.out⟩
  · have hd1 : (st == s) = false := by simp [h1]
    go_enter Try.func79, Try.ntmps79
    go_wp2
    go_ret
    exact ⟨rfl, HG.out⟩
set_option maxRecDepth 100000 in
set_option maxHeartbeats 1600000 in
theorem indexLt_any (w : World) (a : Option Addr) (m c : Nat) (Fs : List FM) (h : RdFr w (.slice a Fs.length c) Fs) (hm : m ≤ Fs.length) (hl : Fs.length ≤ 1000) (b0 : Nat) (s t : Int) (x : Value) (hb0 : w.heap[b0]? = some (.cells #[.int .i64 s, .int .i64 t, x] 31 (0, 0)))
    (hno : ∀ k, k < m → ¬ ((frAt Fs k).st = s ∧ (frAt Fs k).sa > t)) (c' : Nat) :
    Calls Try.prog 97 #[.slice a m c', .func (.func 79) #[] #[.pointer (some ⟨b0, 0, none⟩)]] w fun e w' => e = .returned (.int .i64 (-1)) ∧ Ext w w' := by
  have hbl := (Array.getElem?_eq_some_iff.1 hb0).1
  obtain ⟨a1, c1, hv, -, -, hcell⟩ := h.opened
  obtain ⟨rfl, rfl⟩ : a = a1 ∧ c = c1 := by cases hv; exact ⟨rfl, rfl⟩
  have HB0 := Lib.hid hb0
  have HNO := Lib.hid hno
  clear h hb0 hno hv
  go_enter Try.func97, Try.ntmps97
  go_wp2
  go_loopw [8] (fun i wr => ∃ k : Nat, k ≤ m ∧ i = .int .i64 k ∧ Ext w wr) (fun i _ => m - (intOf i).toNat)
  case atStart => exact ⟨0, Nat.zero_le _, rfl, Ext.refl _⟩
  case round =>
    obtain ⟨wi, rfl⟩ : ∃ wi : World, wi = wr := ⟨_, rfl⟩
    obtain ⟨k, hk, rfl, hb⟩ := hrel
    by_cases hlt : k < m
    · obtain ⟨b, o, a', c'', rfl, hlb, d0, d1, d2, -⟩ := hcell k (by omega)
      have e0 := ((bcell hb).1 _ _ hlb).trans d0
      have e1 := ((bcell hb).1 _ _ hlb).trans d1
      have e2 := ((bcell hb).1 _ _ hlb).trans d2
      have HK := Lib.hid (late1_any wi (frAt Fs k).st (frAt Fs k).sa (.slice a' (frAt Fs k).L.length c'') rfl b0 s t x ((hb.block _ hbl).trans HB0.out) (HNO.out k hlt))
      clear hcell d0 d1 d2
      go_wp2_with fail
      refine HK.out.mono ?_
      rintro e w1 ⟨rfl, b1⟩
      have hb1 : Ext w w1 := hb.trans b1
      clear HK
      go_wp2
      exact ⟨⟨k + 1, by omega, by go_num, hb1⟩, by simp [intOf]; omega⟩
    · obtain rfl : k = m := by omega
      clear hcell
      go_wp2
      go_ret
      exact ⟨rfl, hb⟩
set_option maxRecDepth 100000 in
set_option maxHeartbeats 800000 in
theorem containsLt_any (w : World) (a : Option Addr) (m c : Nat) (Fs : List FM) (h : RdFr w (.slice a Fs.length c) Fs) (hm : m ≤ Fs.length) (hl : Fs.length ≤ 1000) (b0 : Nat) (s t : Int) (x : Value) (hb0 : w.heap[b0]? = some (.cells #[.int .i64 s, .int .i64 t, x] 31 (0, 0)))
    (hno : ∀ k, k < m → ¬ ((frAt Fs k).st = s ∧ (frAt Fs k).sa > t)) (c' : Nat) :
    Calls Try.prog 59 #[.slice a m c', .func (.func 79) #[] #[.pointer (some ⟨b0, 0, none⟩)]] w fun e w' => e = .returned (.bool false) ∧ Ext w w' := by
  have HK := Lib.hid (indexLt_any w a m c Fs h hm hl b0 s t x hb0 hno c')
  clear h hb0 hno
  go_enter Try.func59, Try.ntmps59
  go_wp2_with fail
  refine HK.out.mono ?_
  rintro e w1 ⟨rfl, b1⟩
  go_wp2
  go_ret
  exact ⟨rfl, b1⟩
set_option maxRecDepth 100000 in
set_option maxHeartbeats 1600000 in
theorem lateFrames_any (w : World) (v : Value) (Fs : List FM) (h : RdFr w v Fs) (hs : Fsmall Fs) (hq : areF Fs = true) (hno : ∀ k i, k < i → i < Fs.length → ¬ ((frAt Fs k).st = (frAt Fs i).st ∧ (frAt Fs k).sa > (frAt Fs i).sa)) :
    Calls Try.prog 40 #[v] w fun e w' => e = .returned (.tuple #[.slice none 0 0, .bool true]) ∧ Below w.heap.size w w' := by
  have HK := Lib.hid (areFrames_any w v Fs h hs)
  rw [hq] at HK
  have hl := areF_len hq
  have HR := Lib.hid h
  obtain ⟨a, c, rfl, hcc, hzz, hcell⟩ := h.opened
  have HNO := Lib.hid hno
  clear h hs hq hno
  go_enter Try.func40, Try.ntmps40
  go_wp2_with fail
  refine HK.out.mono ?_
  rintro e w1 ⟨rfl, b1⟩
  have B1 := Lib.hid b1
  clear HK b1
  go_wp2_with fail
  go_loopw [4, 12] (fun o i wr => ∃ j : Nat, j ≤ Fs.length ∧ i = .int .i64 j ∧ o = .slice none 0 0 ∧ Below w.heap.size w wr) (fun _ i _ => Fs.length - (intOf i).toNat)
  case atStart => exact ⟨0, Nat.zero_le _, rfl, rfl, B1.out⟩
  case round =>
    clear B1
    obtain ⟨wi, rfl⟩ : ∃ wi : World, wi = wr := ⟨_, rfl⟩
    obtain ⟨j, hj, rfl, rfl, hb⟩ := hrel
    have HB := Lib.hid hb
    by_cases hlt : j < Fs.length
    · obtain ⟨b, o, a', c', rfl, hlb, d0, d1, d2, -⟩ := hcell j hlt
      have q0 := ((bcell hb).1 _ _ hlb).trans d0
      have q1 := ((bcell hb).1 _ _ hlb).trans d1
      have q2 := ((bcell hb).1 _ _ hlb).trans d2
      have xa : Ext wi (wi.alloc (.cells #[.int .i64 (frAt Fs j).st, .int .i64 (frAt Fs j).sa, .slice a' (frAt Fs j).L.length c'] 31)) := (Below.refl _ _).alloc (Nat.le_refl _) _
      have XA := Lib.hid xa
      have HQ := Lib.hid (containsLt_any _ (some ⟨b, o, none⟩) j c Fs (HR.out.mono (hb.trans (xa.mono hb.size))) (by omega) (by omega) wi.heap.size (frAt Fs j).st (frAt Fs j).sa _ (alloc_new wi (.cells #[.int .i64 (frAt Fs j).st, .int .i64 (frAt Fs j).sa, .slice a' (frAt Fs j).L.length c'] 31)) (fun k hk => HNO.out k j hk hlt) c)
      have hjc : j ≤ c := by omega
      clear hcell d0 d1 d2 hb xa
      go_wp2_with fail
      refine HQ.out.mono ?_
      rintro e w2 ⟨rfl, b2⟩
      have B2 := Lib.hid (HB.out.trans ((XA.out.trans b2).mono HB.out.size))
      clear HQ b2
      go_wp2_with fail
      exact ⟨⟨j + 1, by omega, by go_num, rfl, B2.out⟩, by simp [intOf]; omega⟩
    · obtain rfl : j = Fs.length := by omega
      clear hcell hb
      go_wp2_with fail
      go_ret2
      exact ⟨rfl, HB.out⟩
end Go.Proofs.Ytibojlpeaolfbaa

/- Walks: slices.Grow from nil, slices.Concat of two lists of floats. -/
namespace Go.Proofs.Ytibojlpeaolfbaa
open Go Go.RowKit

/-- 'append' of some zeros to nil: the front of length 0 of what is made is owned. -/
theorem wpList_growNil {P : Program} {ops : Array Oper} {rest : List Oper} {o : Oper} {a : Act} {w : World} {Q : Exit → Act → World → Prop} (hgd : o.guard = none) (s x : Operand) (t tn : TypeId)
    (ho : o.op = .call { callee := .builtin .append, args := #[s, x], argTypes := #[t, tn] }) (e : TypeId) (z : Value) (size bytes : Nat) (kn : IntKind) (ht : P.underlying t = some (.slice e)) (htn : P.underlying tn = some (.int kn))
    (hinfo : (P.info? e).map (fun i => (i.zero, i.size, i.bytes)) = some (some z, size, bytes)) (hzs : z.cells.size = size) (hsz : 0 < size) (k : IntKind) (N : Int) (n : Nat) (hs : a.eval s = .slice none 0 0) (hx : a.eval x = .int k N) (hN : N = (n : Int)) (h0 : 0 < n) (hn : n ≤ 1048576) (hby : bytes ≤ 1000)
    (h : ∀ cap w', n ≤ cap → w'.ownsRow w.heap.size e size (.slice (some ⟨w.heap.size, 0, none⟩) 0 cap) 0 [] → Ext w w' → wpList P ops Q rest (a.put o.dst (.slice (some ⟨w.heap.size, 0, none⟩) n cap)) w') : wpList P ops Q (o :: rest) a w := by
  obtain ⟨i, hi, hz0, hz1, hz2⟩ := info_parts hinfo
  subst hN
  have hr := fun ty => Lib.run_append_nil_zeros (P := P) w t tn ty e i z k kn ht htn hi hz0 n h0 (by omega) (by omega) (by rw [hz2]; exact Nat.le_trans (Nat.mul_le_mul hn hby) (by decide))
  refine wpList_plain hgd fun K hK => ?_
  unfold Oper.wp execOp
  simp only [ho, resolve, invoke, builtin, Sem.run_bind, Sem.run_pure, Result.andThen_ok, List.map_toArray, List.map_cons, List.map_nil, hs, hx, hr]
  have hge := grownCap_ge w n 0 e
  have hlm := grownCap_le_maxLen w n 0 e (by unfold maxLen; omega)
  refine hK _ _ (h _ _ hge ?_ ?_)
  · refine ⟨by simp, .inr ⟨w.heap.size, _, _, rfl, Nat.le_refl _, (by show (w.drew.heap.push _)[w.drew.heap.size]? = _; exact Array.getElem?_push_size), Nat.zero_le _, hlm, ?_, by simp⟩⟩
    simp [Builtin.zeroCells, hzs]
    rw [← Nat.add_mul]
    congr 1
    omega
  · exact ((Below.drewN (Below.refl _ _) 1).alloc (by show w.heap.size ≤ w.heap.size; omega) _)

set_option maxRecDepth 100000 in
set_option maxHeartbeats 800000 in
theorem growF_any (w : World) (n : Nat) (h0 : 0 < n) (hn : n ≤ 1048576) :
    Calls Try.prog 116 #[.slice none 0 0, .int .i64 n] w fun e w' => ∃ cap, e = .returned (.slice (some ⟨w.heap.size, 0, none⟩) 0 cap) ∧ OwnF w' w.heap.size (.slice (some ⟨w.heap.size, 0, none⟩) 0 cap) [] ∧ Ext w w' := by
  have hp : ¬ ((n : Int) < 0) := by omega
  have hp2 : (n : Int) > 0 := by omega
  go_enter Try.func116, Try.ntmps116
  go_wp2_with (at_builtin; go_must (refine wpList_growNil rfl _ _ 27 3 rfl 53 (.float .f32 0) 1 4 .i64 Try.underlying27 Try.underlying3 Try.infoF rfl (by decide) .i64 n n rfl rfl rfl h0 hn (by decide) ?_); intro cap w1 hcap o1 x1; have O1 := Lib.hid o1; clear o1)
  go_ret
  exact ⟨_, rfl, ⟨[], rfl, (fun j hj => by cases hj), O1.out⟩, x1⟩
set_option maxRecDepth 100000 in
set_option maxHeartbeats 3200000 in
theorem concatF_any (w : World) (q : Nat) (v1 v2 : Value) (A B : List Nat) (c1 : w.cell? ⟨q, 0, none⟩ = some v1) (c2 : w.cell? ⟨q, 1, none⟩ = some v2) (h1 : RdF w v1 A) (h2 : RdF w v2 B) (hA : A.length ≤ 100000) (hB : B.length ≤ 100000) (hp : 0 < A.length) :
    Calls Try.prog 85 #[.slice (some ⟨q, 0, none⟩) 2 2] w fun e w' => ∃ v', e = .returned v' ∧ OwnF w' w.heap.size v' (A ++ B) ∧ Ext w w' := by
  have H1 := Lib.hid h1
  have H2 := Lib.hid h2
  have C1 := Lib.hid c1
  have C2 := Lib.hid c2
  have hq := block_lt c1
  obtain ⟨a1, d1, rfl, -, -⟩ := h1.opened
  obtain ⟨a2, d2, rfl, -, -⟩ := h2.opened
  have HG := Lib.hid (growF_any w (A.length + B.length) (by omega) (by omega))
  have n1 : ¬ ((A.length : Int) < 0) := by omega
  have n2 : ¬ ((A.length : Int) + (B.length : Int) < 0) := by omega
  clear h1 h2
  have hne : ¬ (A.length : Int) + (B.length : Int) < 0 := n2
  go_enter Try.func85, Try.ntmps85
  go_wp2_with fail
  go_loopw [3, 11] (fun sz i wr => wr = w ∧ ((i = .int .i64 0 ∧ sz = .int .i64 0) ∨ (i = .int .i64 1 ∧ sz = .int .i64 A.length) ∨ (i = .int .i64 2 ∧ sz = .int .i64 (A.length + B.length : Nat)))) (fun _ i _ => 2 - (intOf i).toNat)
  case atStart => exact ⟨rfl, .inl ⟨rfl, rfl⟩⟩
  case round =>
    obtain ⟨hw, hrel⟩ := hrel
    obtain rfl : w = wr := hw.symm
    clear hw
    rcases hrel with ⟨rfl, rfl⟩ | ⟨rfl, rfl⟩ | ⟨rfl, rfl⟩
    · go_wp2_with fail
      exact ⟨⟨trivial, .inr (.inl ⟨rfl, by simp⟩)⟩, by simp [intOf]⟩
    · go_wp2_with fail
      exact ⟨⟨trivial, .inr (.inr ⟨rfl, by congr 1⟩)⟩, by simp [intOf]⟩
    · clear n1 n2 hne c1 c2
      go_wp2_with fail
      refine HG.out.mono ?_
      rintro e w1 ⟨cap, rfl, o1, x1⟩
      have O1 := Lib.hid o1
      have X1 := Lib.hid x1
      clear HG o1 x1
      go_wp2_with fail
      go_loopw [6, 27] (fun o i wr => Ext w wr ∧ ((i = .int .i64 0 ∧ OwnF wr w.heap.size o []) ∨ (i = .int .i64 1 ∧ OwnF wr w.heap.size o A) ∨ (i = .int .i64 2 ∧ OwnF wr w.heap.size o (A ++ B)))) (fun _ i _ => 2 - (intOf i).toNat)
      case atStart => exact ⟨X1.out, .inl ⟨rfl, O1.out⟩⟩
      case round =>
        obtain ⟨wi, rfl⟩ : ∃ wi : World, wi = wr := ⟨_, rfl⟩
        obtain ⟨x, hrel⟩ := hrel
        have c1 := ((bcell x).1 _ _ hq).trans C1.out
        have c2 := ((bcell x).1 _ _ hq).trans C2.out
        have X := Lib.hid x
        have z := x.size
        have R1 := Lib.hid (H1.out.mono x)
        have R2 := Lib.hid (H2.out.mono x)
        clear X1 O1 x
        rcases hrel with ⟨rfl, o⟩ | ⟨rfl, o⟩ | ⟨rfl, o⟩
        · have O := Lib.hid o
          clear o c2
          go_wp2_with (at_builtin; go_must (refine wpList_pushAll rfl _ _ rfl w.heap.size _ [] rfl O.out _ A rfl R1.out (by simp) (by omega) z ?_); intro v3 w3 o3 g3 b3 l3; clear c1)
          exact ⟨⟨Below.trans X.out (b3.mono (Nat.le_refl _)), .inr (.inl ⟨rfl, by simpa using o3⟩)⟩, by simp [intOf]⟩
        · have O := Lib.hid o
          clear o c1
          go_wp2_with (at_builtin; go_must (refine wpList_pushAll rfl _ _ rfl w.heap.size _ A rfl O.out _ B rfl R2.out (by omega) (by omega) z ?_); intro v3 w3 o3 g3 b3 l3; clear c2)
          exact ⟨⟨Below.trans X.out (b3.mono (Nat.le_refl _)), .inr (.inr ⟨rfl, o3⟩)⟩, by simp [intOf]⟩
        · have O := Lib.hid o
          clear o c1 c2
          go_wp2_with fail
          go_ret
          exact ⟨_, rfl, O.out, X.out⟩
end Go.Proofs.Ytibojlpeaolfbaa

/- Walks: SplitFrame. -/
namespace Go.Proofs.Ytibojlpeaolfbaa
open Go Go.RowKit

theorem RdF.part {w : World} {b o n c m : Nat} {L : List Nat} (h : RdF w (.slice (some ⟨b, o, none⟩) n c) L) (hm : m ≤ n) : RdF w (.slice (some ⟨b, o, none⟩) m c) (L.take m) ∧ RdF w (.slice (some ⟨b, o + m, none⟩) (n - m) (c - m)) (L.drop m) := by
  obtain ⟨a', c', hv, hcap, hz, hr⟩ := h
  obtain ⟨rfl, rfl, rfl⟩ : some ⟨b, o, none⟩ = a' ∧ n = L.length ∧ c = c' := by cases hv; exact ⟨rfl, rfl, rfl⟩
  have hl : (L.take m).length = m := by rw [List.length_take]; omega
  refine ⟨⟨_, _, by rw [hl], by omega, (fun h => by cases h), fun j hj => ?_⟩, ⟨_, _, by rw [List.length_drop], by rw [List.length_drop]; omega, (fun h => by cases h), fun j hj => ?_⟩⟩
  · obtain ⟨b1, o1, u, e, hu, r, hr1, hr2⟩ := hr j (by omega)
    exact ⟨b1, o1, u, e, hu, r, hr1, by rw [List.getD_eq_getElem?_getD, List.getElem?_take_of_lt (by omega), ← List.getD_eq_getElem?_getD]; exact hr2⟩
  · rw [List.length_drop] at hj
    obtain ⟨b1, o1, u, e, hu, r, hr1, hr2⟩ := hr (m + j) (by omega)
    cases e
    refine ⟨b, o + m, u, rfl, ?_, r, hr1, by rw [List.getD_eq_getElem?_getD, List.getElem?_drop, ← List.getD_eq_getElem?_getD]; exact hr2⟩
    rw [Nat.add_assoc]; exact hu
/-- A row of floats lies in no block of another type. -/
theorem OwnF.apart {w : World} {B : Nat} {v : Value} {L : List Nat} (h : OwnF w B v L) {g : Nat} {cs : Array Value} {t : TypeId} {r : Nat × Nat} (hg : w.heap[g]? = some (.cells cs t r)) (ht : t ≠ 53) : ∀ k, v.ownBlock = some k → k ≠ g := by
  intro k hk e
  subst e
  obtain ⟨bits, -, -, ho⟩ := h
  rcases ho.2 with ⟨hv, -⟩ | ⟨g', cap, cur, hv, -, hg', -⟩
  · rw [hv] at hk; cases hk
  · rw [hv] at hk
    obtain rfl : g' = k := Option.some.inj hk
    rw [hg'] at hg
    injection hg with e1
    injection e1 with e2 e3
    exact ht e3.symm
/-- The first numbers of a frame, and the others. -/
def fstF (f : FM) (m : Nat) : FM := ⟨f.st, f.sa, f.L.take m⟩
def sndF (f : FM) (m : Nat) : FM := ⟨f.st, f.sa + (m : Nat), f.L.drop m⟩

set_option maxRecDepth 100000 in
set_option maxHeartbeats 3200000 in
theorem splitFrame_any (w : World) (f : FM) (v : Value) (m : Nat) (hR : RdF w v f.L) (hf : Ev f) (h1 : 1 ≤ m) (h2 : m + 1 ≤ f.L.length) (hok : okF (sndF f m) = true) :
    Calls Try.prog 45 #[.agg #[.int .i64 f.st, .int .i64 f.sa, v], .int .i64 m] w fun e w' => ∃ va vb, e = .returned (.tuple #[.agg #[.int .i64 f.st, .int .i64 f.sa, va], .agg #[.int .i64 f.st, .int .i64 (f.sa + m), vb], .bool true]) ∧ OwnF w' w.heap.size va (f.L.take m) ∧ OwnF w' w.heap.size vb (f.L.drop m) ∧ Below w.heap.size w w' := by
  have hlen := hf.len
  have hsa := hf.sa
  have hok0 := hf.ok
  obtain ⟨b, o, c, rfl, -, hbl, -⟩ := hR.at_block (by omega)
  obtain ⟨hP1, hP2⟩ := hR.part (m := m) (by omega)
  have P1 := Lib.hid hP1
  have P2 := Lib.hid hP2
  obtain ⟨W, hW⟩ : ∃ W, ((w.alloc (.cells #[.int .i64 f.st, .int .i64 f.sa, .slice (some ⟨b, o, none⟩) f.L.length c] 31)).alloc (.cells #[.int .i64 0, .int .i64 0, .slice none 0 0] 31)).alloc (.cells #[.int .i64 0, .int .i64 0, .slice none 0 0] 31) = W := ⟨_, rfl⟩
  have hx : Ext w W := by rw [← hW]; exact (((Below.refl _ _).alloc (Nat.le_refl _) _).alloc (by simp) _).alloc (by simp; omega) _
  obtain ⟨g0, g1, g2⟩ := heap3 w (.cells #[.int .i64 f.st, .int .i64 f.sa, .slice (some ⟨b, o, none⟩) f.L.length c] 31) (.cells #[.int .i64 0, .int .i64 0, .slice none 0 0] 31) (.cells #[.int .i64 0, .int .i64 0, .slice none 0 0] 31)
  rw [hW] at g0 g1 g2
  have hzW : W.heap.size = w.heap.size + 3 := by rw [← hW]; simp
  obtain ⟨m0, m1, m2, -, -, -⟩ := blk3 g0
  have HV := Lib.hid (validFrame_any W f (some ⟨b, o, none⟩) c (hR.mono hx) (by omega))
  rw [hok0] at HV
  have HSz := hf
  obtain ⟨st, sa, L⟩ := f
  simp only at *
  obtain ⟨N, hN⟩ : ∃ N, L.length = N := ⟨_, rfl⟩
  rw [hN] at h2 hlen m2 HV g0 hW P2 ⊢
  have hin : inB (m : Int) 1 ((N : Int) - 1) = true := by unfold inB; simp; omega
  have G0 := Lib.hid g0
  have G1 := Lib.hid g1
  have G2 := Lib.hid g2
  have HX := Lib.hid hx
  have FX : Hid (∀ wq, Ext W wq → wq.cell? ⟨w.heap.size, 0, none⟩ = some (.int .i64 st) ∧ wq.cell? ⟨w.heap.size, 1, none⟩ = some (.int .i64 sa) ∧ wq.cell? ⟨w.heap.size, 2, none⟩ = some (.slice (some ⟨b, o, none⟩) N c)) := Lib.hid fun wq hq => by
    obtain ⟨k0, k1, k2, -, -, -⟩ := blk3 ((hq.block w.heap.size (by omega)).trans G0.out)
    exact ⟨k0, k1, k2⟩
  have HOK := Lib.hid hok
  have hmN : m ≤ N := by omega
  have hmc : N ≤ c := by obtain ⟨a', c', hv, hc, -⟩ := hR; cases hv; omega
  have HD2 : Hid ((L.drop m).length = N - m) := Lib.hid (by rw [List.length_drop, hN])
  clear g0 g1 g2 hx hP1 hP2 hR hok hok0 hf HSz
  go_enter Try.func45, Try.ntmps45
  go_wp2_with fail
  refine HV.out.mono ?_
  rintro e w1 ⟨rfl, b1⟩
  have B1 : Hid (Ext W w1) := Lib.hid b1
  obtain ⟨k0, k1, k2⟩ := FX.out w1 b1
  clear HV b1 hW m0 m1 m2
  go_wp2_with fail
  refine (lengthF_any _ _ _ _).mono ?_
  rintro e w2 ⟨rfl, hw2⟩
  obtain rfl : w1 = w2 := hw2.symm
  clear hw2
  go_wp2_with fail
  refine (within_any _ _ _ _).mono ?_
  rintro e w2 ⟨rfl, hw2⟩
  obtain rfl : w1 = w2 := hw2.symm
  clear hw2
  rw [hin]
  clear hin
  go_wp2_with fail
  clear k0 k1 k2
  refine region_grow_tail 11 (by kernel_rfl) (by kernel_rfl) (cloneT (L.take m)) ?_
  simp only [List.take_succ_cons, List.take_zero, List.drop_succ_cons, List.drop_zero]
  have FXq : Hid (∀ wq, Ext w1.drew wq → Ext W wq) := Lib.hid fun wq hq => B1.out.trans ((Ext.drew w1).trans hq)
  iterate 8 (refine wpRelK_still rfl rfl (fun wq hq K hK => ?_); obtain ⟨k0, k1, k2⟩ := FX.out wq (FXq.out wq hq.1); go_wp2; clear k0 k1 k2)
  refine wpRelK_callF #[.slice (some ⟨b, o, none⟩) m c] rfl Try.func84 (by kernel_rfl) (by kernel_rfl) (by simp [go_sem])
    (fun wq hq => (clone_any wq _ (L.take m) (P1.out.mono (HX.out.trans (FXq.out wq hq.1))) (by rw [List.length_take]; omega)).mono fun e w'' ⟨v', he, ho, hb⟩ => ⟨v', he, ho, hb⟩)
    (fun wq hq => ownF_exists wq _ (L.take m) (P1.out.mono (HX.out.trans (FXq.out wq hq.1))) (by rw [List.length_take]; unfold maxLen; omega)) ?_
  intro wq7 hq7 u w7 hT7 x7
  have hT7' : OwnF w7 wq7.heap.size u (L.take m) := hT7
  have hz7 := (HX.out.trans (FXq.out wq7 hq7.1)).size
  have O7 := Lib.hid hT7'
  obtain ⟨a2, n2, c2, rfl⟩ : ∃ a n c, u = .slice a n c := (by obtain ⟨a, c, h, -⟩ := hT7'.rd.opened; exact ⟨a, _, c, h⟩)
  clear hT7 hT7' hq7
  simp only [Act.put, List.setIfInBounds_toArray, List.set_cons_succ, List.set_cons_zero]
  refine wpRelK_still rfl rfl (fun wq hq K hK => ?_)
  go_wp2
  refine wpRelK_op rfl rfl (fun w9 hq9 K hK => ?_)
  have xW9 : Hid (Ext W w9) := Lib.hid (FXq.out w9 hq9.1)
  go_wp2
  refine hK _ _ ((Below.refl _ _).alloc (Nat.le_refl _) _) ?_
  clear hK K
  refine wpRelK_nil ?_
  intro w' hW hall
  have E7 : Ext w7 w' := hall 8 (by decide)
  have E9 : Ext (w9.alloc (.cells #[.int .i64 0, .int .i64 0, .slice none 0 0] 31)) w' := hall 10 (by decide)
  obtain ⟨ga, hga⟩ : ∃ ga, w9.heap.size = ga := ⟨_, rfl⟩
  have hA0 := (E9.block w9.heap.size (by rw [World.size_alloc]; omega)).trans (alloc_new _ _)
  rw [hga] at hA0 ⊢
  have hga3 : W.heap.size ≤ ga := by rw [← hga]; exact xW9.out.size
  have xWp : Ext W w' := FXq.out w' hW
  have OA0 : OwnF w' w.heap.size (.slice a2 n2 c2) (L.take m) := (O7.out.kept E7).mono hz7
  have hab := OA0.apart hA0 (by decide)
  have PA := put3 hA0 (.int .i64 st) (.int .i64 sa) (.slice a2 n2 c2)
  obtain ⟨q0, q1, q2, f0, f1, f2⟩ := blk3 hA0
  obtain ⟨wS, hwS⟩ : ∃ wS, ((w'.setCell ⟨ga, 0, none⟩ (.int .i64 st)).setCell ⟨ga, 1, none⟩ (.int .i64 sa)).setCell ⟨ga, 2, none⟩ (.slice a2 n2 c2) = wS := ⟨_, rfl⟩
  rw [hwS] at PA
  have XS := Lib.hid (Below.chg xWp PA.chg (fun k hk => by omega) xWp.size)
  have OA := Lib.hid (OA0.chg PA.chg hab)
  have HA := Lib.hid PA.heap
  clear hA0 OA0 hab PA E7 E9 hall xWp hW xW9 hq9 hga FXq O7 x7 B1
  go_wp2_with fail
  clear hwS q0 q1 q2 f0 f1 f2
  refine region_grow_tail 13 (by kernel_rfl) (by kernel_rfl) (cloneT (L.drop m)) ?_
  simp only [List.take_succ_cons, List.take_zero, List.drop_succ_cons, List.drop_zero]
  have FXq : Hid (∀ wq, Ext wS.drew wq → Ext W wq) := Lib.hid fun wq hq => Below.trans XS.out ((Ext.trans (Ext.drew wS) hq).mono XS.out.size)
  have FSq : Hid (∀ wq, Ext wS.drew wq → Ext wS wq) := Lib.hid fun wq hq => (Ext.drew wS).trans hq
  iterate 10 (refine wpRelK_still rfl rfl (fun wq hq K hK => ?_); obtain ⟨k0, k1, k2⟩ := FX.out wq (FXq.out wq hq.1); go_wp2; clear k0 k1 k2)
  refine wpRelK_callF #[.slice (some ⟨b, o + m, none⟩) (N - m) (c - m)] rfl Try.func84 (by kernel_rfl) (by kernel_rfl) (by simp [go_sem])
    (fun wq hq => (clone_any wq _ (L.drop m) (P2.out.mono (HX.out.trans (FXq.out wq hq.1))) (by rw [HD2.out]; omega)).mono fun e w'' ⟨v', he, ho, hb⟩ => ⟨v', he, ho, hb⟩)
    (fun wq hq => ownF_exists wq _ (L.drop m) (P2.out.mono (HX.out.trans (FXq.out wq hq.1))) (by rw [HD2.out]; unfold maxLen; omega)) ?_
  intro wqB hqB uB wB hTB xB
  have hTB' : OwnF wB wqB.heap.size uB (L.drop m) := hTB
  have hzB := (HX.out.trans (FXq.out wqB hqB.1)).size
  have OB := Lib.hid hTB'
  obtain ⟨a3, n3, c3, rfl, hn3⟩ : ∃ a n c, uB = .slice a n c ∧ n = (L.drop m).length := (by obtain ⟨a, c, h, -⟩ := hTB'.rd.opened; exact ⟨a, _, c, h, rfl⟩)
  have HN3 := Lib.hid hn3
  clear hTB hTB' hqB hn3
  simp only [Act.put, List.setIfInBounds_toArray, List.set_cons_succ, List.set_cons_zero]
  refine wpRelK_still rfl rfl (fun wq hq K hK => ?_)
  go_wp2
  refine wpRelK_op rfl rfl (fun w9 hq9 K hK => ?_)
  have xW9 : Hid (Ext W w9) := Lib.hid (FXq.out w9 hq9.1)
  go_wp2
  refine hK _ _ ((Below.refl _ _).alloc (Nat.le_refl _) _) ?_
  clear hK K
  refine wpRelK_nil ?_
  intro w' hW hall
  have E7 : Ext wB w' := hall 10 (by decide)
  have E9 : Ext (w9.alloc (.cells #[.int .i64 0, .int .i64 0, .slice none 0 0] 31)) w' := hall 12 (by decide)
  obtain ⟨gb, hgb⟩ : ∃ gb, w9.heap.size = gb := ⟨_, rfl⟩
  have hB0 := (E9.block w9.heap.size (by rw [World.size_alloc]; omega)).trans (alloc_new _ _)
  have hgaS := (Array.getElem?_eq_some_iff.1 HA.out).1
  have hgb2 : wS.heap.size ≤ gb := by rw [← hgb]; exact (FSq.out w9 hq9.1).size
  rw [hgb] at hB0 ⊢
  have xWp : Ext W w' := FXq.out w' hW
  have xSp : Ext wS w' := FSq.out w' hW
  have OB0 : OwnF w' w.heap.size (.slice a3 n3 c3) (L.drop m) := (OB.out.kept E7).mono hzB
  have hbb := OB0.apart hB0 (by decide)
  have PB := put3 hB0 (.int .i64 st) (.int .i64 (sa + m)) (.slice a3 n3 c3)
  obtain ⟨q0, q1, q2, f0, f1, f2⟩ := blk3 hB0
  obtain ⟨wT, hwT⟩ : ∃ wT, ((w'.setCell ⟨gb, 0, none⟩ (.int .i64 st)).setCell ⟨gb, 1, none⟩ (.int .i64 (sa + m))).setCell ⟨gb, 2, none⟩ (.slice a3 n3 c3) = wT := ⟨_, rfl⟩
  rw [hwT] at PB
  have XT := Lib.hid (Below.chg xWp PB.chg (fun k hk => by have := XS.out.size; omega) xWp.size)
  have OBT := Lib.hid (OB0.chg PB.chg hbb)
  have OAT := Lib.hid ((OA.out.kept xSp).chg PB.chg fun k hk e => by have := (OA.out.lt hk).2; omega)
  have HBT := Lib.hid PB.heap
  have HAT := Lib.hid ((PB.chg.block ga (by have := xSp.size; omega) (by omega)).trans ((xSp.block ga hgaS).trans HA.out))
  clear hB0 OB0 hbb PB E7 E9 hall xWp xSp hW xW9 hq9 hgb FXq FSq OB xB HA OA
  obtain ⟨k0, k1, k2, -, -, -⟩ := blk3 HBT.out
  have HV2 : Hid (Calls Try.prog 13 #[.agg #[.int .i64 st, .int .i64 (sa + m), .slice a3 n3 c3]] wT fun e w' => e = .returned (.bool true) ∧ Below wT.heap.size wT w') := Lib.hid (by
    have hr : RdF wT (.slice a3 (sndF ⟨st, sa, L⟩ m).L.length c3) (sndF ⟨st, sa, L⟩ m).L := by
      have := OBT.out.rd
      rw [HN3.out] at this
      exact this
    have := validFrame_any wT (sndF ⟨st, sa, L⟩ m) a3 c3 hr (by show (L.drop m).length ≤ _; rw [HD2.out]; omega)
    rw [HOK.out] at this
    rw [HN3.out]
    exact this)
  have hsizes : w.heap.size + 1 + 1 < W.heap.size := by omega
  go_wp2_with fail
  clear hwT q0 q1 q2 f0 f1 f2 k0 k1 k2
  refine HV2.out.mono ?_
  rintro e w10 ⟨rfl, b10⟩
  have x10 : Ext wT w10 := b10
  have XWX := Lib.hid (Below.trans XT.out (x10.mono XT.out.size))
  obtain ⟨k0, k1, k2, -, -, -⟩ := blk3 ((x10.block ga (Array.getElem?_eq_some_iff.1 HAT.out).1).trans HAT.out)
  obtain ⟨j0, j1, j2, -, -, -⟩ := blk3 ((x10.block gb (Array.getElem?_eq_some_iff.1 HBT.out).1).trans HBT.out)
  have OA10 := Lib.hid (OAT.out.kept x10)
  have OB10 := Lib.hid (OBT.out.kept x10)
  have h1 := (XWX.out.block (w.heap.size + 1) (by omega)).trans G1.out
  have h2 := (XWX.out.block (w.heap.size + 1 + 1) (by omega)).trans G2.out
  obtain ⟨p0, p1, p2, f0, f1, f2⟩ := blk3 h1
  obtain ⟨q0, q1, q2, e0, e1, e2⟩ := blk3 h2
  clear HV2 b10 x10
  have hx10 : Ext w w10 := HX.out.trans XWX.out
  have PU := put3 h1 (.int .i64 st) (.int .i64 sa) (.slice a2 n2 c2)
  obtain ⟨wU, hwU⟩ : ∃ wU, ((w10.setCell ⟨w.heap.size + 1, 0, none⟩ (.int .i64 st)).setCell ⟨w.heap.size + 1, 1, none⟩ (.int .i64 sa)).setCell ⟨w.heap.size + 1, 2, none⟩ (.slice a2 n2 c2) = wU := ⟨_, rfl⟩
  rw [hwU] at PU
  have hl2 := (Array.getElem?_eq_some_iff.1 h2).1
  have h2U := (PU.chg.block (w.heap.size + 1 + 1) hl2 (by omega)).trans h2
  have PV := put3 h2U (.int .i64 st) (.int .i64 (sa + m)) (.slice a3 n3 c3)
  obtain ⟨wV, hwV⟩ : ∃ wV, ((wU.setCell ⟨w.heap.size + 1 + 1, 0, none⟩ (.int .i64 st)).setCell ⟨w.heap.size + 1 + 1, 1, none⟩ (.int .i64 (sa + m))).setCell ⟨w.heap.size + 1 + 1, 2, none⟩ (.slice a3 n3 c3) = wV := ⟨_, rfl⟩
  rw [hwV] at PV
  have zU := PU.chg.size
  have hb1 : Below w.heap.size w wU := Below.chg hx10 PU.chg (fun k hk => by omega) hx10.size
  have XV := Lib.hid (Below.chg hb1 PV.chg (fun k hk => by omega) hb1.size)
  have OAU := OA10.out.chg PU.chg (OA10.out.apart h1 (by decide))
  have OBU := OB10.out.chg PU.chg (OB10.out.apart h1 (by decide))
  have OAV := Lib.hid (OAU.chg PV.chg (OAU.apart h2U (by decide)))
  have OBV := Lib.hid (OBU.chg PV.chg (OBU.apart h2U (by decide)))
  have HP1 := Lib.hid ((PV.chg.block (w.heap.size + 1) (Array.getElem?_eq_some_iff.1 PU.heap).1 (by omega)).trans PU.heap)
  have HP2 := Lib.hid PV.heap
  have hgb0 : gb < w10.heap.size := block_lt j0
  have hU := PU.chg.block gb hgb0 (by omega)
  have jU0 := (cellR_same (o := 0) hU).trans j0
  have jU1 := (cellR_same (o := 1) hU).trans j1
  have jU2 := (cellR_same (o := 2) hU).trans j2
  obtain ⟨q0, q1, q2, e0, e1, e2⟩ := blk3 h2U
  clear PU PV hb1 OAU OBU hU h1 h2 h2U hx10
  go_wp2_with fail
  refine wp_region_any (by kernel_rfl) ?_
  refine wpAny_ready (rs := [0, 1]) (by kernel_rfl) (by simp) (AllReady.cons rfl (fun K hK => ?_) (AllReady.cons rfl (fun K hK => ?_) AllReady.nil))
  · (go_simp; refine hK _ _ ?_; clear hK K)
    refine wpAny_ready (rs := [1, 2]) (by kernel_rfl) (by simp) (AllReady.cons rfl (fun K hK => ?_) (AllReady.cons rfl (fun K hK => ?_) AllReady.nil))
    · (go_simp; refine hK _ _ ?_; clear hK K)
      refine wpAny_tail 2 (by kernel_rfl) (by kernel_rfl) ?_
      simp only [List.drop_succ_cons, List.drop_zero]
      go_wp2_with fail
      have r1 := HP1.out; have r2 := HP2.out
      obtain ⟨s0, s1, s2, -, -, -⟩ := blk3 r1; obtain ⟨t0, t1, t2, -, -, -⟩ := blk3 r2
      refine bodyPost_ret (v := .tuple #[.agg #[.int .i64 st, .int .i64 sa, .slice a2 n2 c2], .agg #[.int .i64 st, .int .i64 (sa + m), .slice a3 n3 c3], .bool true]) (by simp [results, Try.results45, go_sem, s0, s1, s2, t0, t1, t2]) rfl ?_
      exact ⟨.slice a2 n2 c2, .slice a3 n3 c3, rfl, OAV.out, OBV.out, Below.drewN XV.out 1⟩
    · go_simp; (try rw [hwU]); refine hK _ _ ?_; clear hK K
      refine wpAny_ready (rs := [1]) (by kernel_rfl) (by simp) (AllReady.cons rfl (fun K hK => ?_) AllReady.nil)
      (go_simp; refine hK _ _ ?_; clear hK K)
      refine wpAny_tail 3 (by kernel_rfl) (by kernel_rfl) ?_
      simp only [List.drop_succ_cons, List.drop_zero]
      go_wp2_with fail
      have r1 := HP1.out; have r2 := HP2.out
      obtain ⟨s0, s1, s2, -, -, -⟩ := blk3 r1; obtain ⟨t0, t1, t2, -, -, -⟩ := blk3 r2
      refine bodyPost_ret (v := .tuple #[.agg #[.int .i64 st, .int .i64 sa, .slice a2 n2 c2], .agg #[.int .i64 st, .int .i64 (sa + m), .slice a3 n3 c3], .bool true]) (by simp [results, Try.results45, go_sem, s0, s1, s2, t0, t1, t2]) rfl ?_
      exact ⟨.slice a2 n2 c2, .slice a3 n3 c3, rfl, OAV.out, OBV.out, Below.drewN XV.out 1⟩
  · (go_simp; refine hK _ _ ?_; clear hK K)
    refine wpAny_ready (rs := [0]) (by kernel_rfl) (by simp) (AllReady.cons rfl (fun K hK => ?_) AllReady.nil)
    (go_simp; refine hK _ _ ?_; clear hK K)
    refine wpAny_tail 2 (by kernel_rfl) (by kernel_rfl) ?_
    simp only [List.drop_succ_cons, List.drop_zero]
    go_wp2_with fail
    have r1 := HP1.out; have r2 := HP2.out
    obtain ⟨s0, s1, s2, -, -, -⟩ := blk3 r1; obtain ⟨t0, t1, t2, -, -, -⟩ := blk3 r2
    refine bodyPost_ret (v := .tuple #[.agg #[.int .i64 st, .int .i64 sa, .slice a2 n2 c2], .agg #[.int .i64 st, .int .i64 (sa + m), .slice a3 n3 c3], .bool true]) (by simp [results, Try.results45, go_sem, s0, s1, s2, t0, t1, t2]) rfl ?_
    exact ⟨.slice a2 n2 c2, .slice a3 n3 c3, rfl, OAV.out, OBV.out, Below.drewN XV.out 1⟩
end Go.Proofs.Ytibojlpeaolfbaa

/- Walks: JoinFrames. -/
namespace Go.Proofs.Ytibojlpeaolfbaa
open Go Go.RowKit

theorem RdF.slice2 {w : World} {v : Value} {L : List Nat} (h : RdF w v L) : ∃ a n c, v = .slice a n c ∧ n = L.length := by
  obtain ⟨a, c, hv, -⟩ := h.opened
  exact ⟨a, _, c, hv, rfl⟩
theorem RdF.cls {w : World} {v : Value} {L : List Nat} (h : RdF w v L) : ∀ x ∈ L, Cls .f32 x := by
  intro x hx
  obtain ⟨j, hj, rfl⟩ := List.mem_iff_getElem.1 hx
  obtain ⟨a, c, -, -, -, hr⟩ := h.opened
  obtain ⟨b, o, r, -, -, hf⟩ := hr j hj
  rw [List.getD_eq_getElem?_getD, List.getElem?_eq_getElem hj] at hf
  exact hf.cls
theorem ownF_cls (w : World) (L : List Nat) (h : ∀ x ∈ L, Cls .f32 x) (hl : L.length ≤ maxLen) : ∃ u w'', OwnF w'' w.heap.size u L ∧ Ext w w'' := by
  refine ⟨.slice (some ⟨w.heap.size, 0, none⟩) L.length L.length, w.alloc (.cells (L.map (Value.float .f32)).toArray 53), ⟨L, rfl, fun j hj => ?_, ?_⟩, (Below.refl _ _).alloc (Nat.le_refl _) _⟩
  · rw [List.getD_eq_getElem?_getD, List.getElem?_eq_getElem hj]
    exact h _ (List.getElem_mem hj)
  · exact ⟨by simp, .inr ⟨w.heap.size, L.length, _, rfl, Nat.le_refl _, alloc_new _ _, Nat.le_refl _, hl, by simp, by rw [Nat.mul_one]; exact List.take_of_length_le (by simp)⟩⟩
set_option maxRecDepth 100000 in
set_option maxHeartbeats 400000 in
theorem validF_any (w : World) (st sa : Int) (v : Value) (L : List Nat) (hR : RdF w v L) (hm : L.length ≤ 1048576) (hok : okF ⟨st, sa, L⟩ = true) :
    Calls Try.prog 13 #[.agg #[.int .i64 st, .int .i64 sa, v]] w fun e w' => e = .returned (.bool true) ∧ Below w.heap.size w w' := by
  obtain ⟨a, c, rfl, -⟩ := hR.opened
  have := validFrame_any w ⟨st, sa, L⟩ a c hR hm
  rw [hok] at this
  exact this
set_option maxRecDepth 100000 in
set_option maxHeartbeats 3200000 in
theorem joinFrames_any (w : World) (st sa : Int) (va vb : Value) (A B : List Nat) (hA : RdF w va A) (hB : RdF w vb B) (h1 : okF ⟨st, sa, A⟩ = true) (h2 : okF ⟨st, sa + (A.length : Nat), B⟩ = true) (h3 : okF ⟨st, sa, A ++ B⟩ = true) (hs0 : 0 ≤ sa) (hs1 : sa ≤ 1000) (la : 1 ≤ A.length) (la2 : A.length ≤ 1000) (lb : B.length ≤ 1000) :
    Calls Try.prog 46 #[.agg #[.int .i64 st, .int .i64 sa, va], .agg #[.int .i64 st, .int .i64 (sa + (A.length : Nat)), vb]] w fun e w' => ∃ vo, e = .returned (.tuple #[.agg #[.int .i64 st, .int .i64 sa, vo], .bool true]) ∧ OwnF w' w.heap.size vo (A ++ B) ∧ Below w.heap.size w w' := by
  obtain ⟨a1, n1, c1, rfl, hn1⟩ := hA.slice2
  obtain ⟨a2, n2, c2, rfl, hn2⟩ := hB.slice2
  rw [← hn1] at h2 ⊢
  obtain ⟨W, hW⟩ : ∃ W, ((w.alloc (.cells #[.int .i64 st, .int .i64 sa, .slice a1 n1 c1] 31)).alloc (.cells #[.int .i64 st, .int .i64 (sa + (n1 : Nat)), .slice a2 n2 c2] 31)).alloc (.cells #[.int .i64 0, .int .i64 0, .slice none 0 0] 31) = W := ⟨_, rfl⟩
  have hx : Ext w W := by rw [← hW]; exact (((Below.refl _ _).alloc (Nat.le_refl _) _).alloc (by simp) _).alloc (by simp; omega) _
  obtain ⟨g0, g1, g2⟩ := heap3 w (.cells #[.int .i64 st, .int .i64 sa, .slice a1 n1 c1] 31) (.cells #[.int .i64 st, .int .i64 (sa + (n1 : Nat)), .slice a2 n2 c2] 31) (.cells #[.int .i64 0, .int .i64 0, .slice none 0 0] 31)
  rw [hW] at g0 g1 g2
  have hzW : W.heap.size = w.heap.size + 3 := by rw [← hW]; simp
  have G2 := Lib.hid g2
  have HX := Lib.hid hx
  have HA := Lib.hid (hA.mono hx)
  have HB := Lib.hid (hB.mono hx)
  have FX : Hid (∀ wq, Ext W wq → wq.cell? ⟨w.heap.size, 0, none⟩ = some (.int .i64 st) ∧ wq.cell? ⟨w.heap.size, 1, none⟩ = some (.int .i64 sa) ∧ wq.cell? ⟨w.heap.size, 2, none⟩ = some (.slice a1 n1 c1) ∧ wq.cell? ⟨w.heap.size + 1, 0, none⟩ = some (.int .i64 st) ∧ wq.cell? ⟨w.heap.size + 1, 1, none⟩ = some (.int .i64 (sa + (n1 : Nat))) ∧ wq.cell? ⟨w.heap.size + 1, 2, none⟩ = some (.slice a2 n2 c2)) := Lib.hid fun wq hq => by
    obtain ⟨k0, k1, k2, -, -, -⟩ := blk3 ((hq.block w.heap.size (by omega)).trans g0)
    obtain ⟨j0, j1, j2, -, -, -⟩ := blk3 ((hq.block (w.heap.size + 1) (by omega)).trans g1)
    exact ⟨k0, k1, k2, j0, j1, j2⟩
  have H1 := Lib.hid h1
  have H2 := Lib.hid h2
  have H3 := Lib.hid h3
  have HN1 := Lib.hid hn1
  have HN2 := Lib.hid hn2
  have hl1 : 1 ≤ n1 := by omega
  have hl2 : n1 ≤ 1000 := by omega
  have hl3 : n2 ≤ 1000 := by omega
  have E1 := Lib.hid (fun wq => frameEnd_any wq st sa a1 n1 c1 hs0 (by omega) (by omega))
  clear g0 g1 g2 hx hA hB h1 h2 h3 hn1 hn2
  go_enter Try.func46, Try.ntmps46
  go_wp2_with fail
  clear hW
  refine region_rel_all (by kernel_rfl) (by kernel_rfl) (Below W.heap.size W) (fun f _ v => v = (if f = 82 then .int .i64 (sa + (n1 : Nat)) else .bool true)) (Below.drewN (Below.refl _ _) 1) ?_
  have TB : ¬ 13 = 82 := by decide
  refine wpRel_under rfl rfl (fun wq hq K hK => ?_); obtain ⟨k0, k1, k2, j0, j1, j2⟩ := FX.out wq hq; go_wp2; clear k0 k1 k2 j0 j1 j2
  refine wpRel_callG #[.agg #[.int .i64 st, .int .i64 sa, .slice a1 n1 c1]] rfl Try.func13 (by kernel_rfl) (by kernel_rfl) (by simp [go_sem]) ⟨W, Below.refl _ _⟩ ⟨_, rfl⟩
    (fun wq hq => (validF_any wq st sa _ A (HA.out.mono hq) (by omega) H1.out).mono fun e w'' ⟨he, hb⟩ => ⟨_, he, by rw [if_neg TB], hq.trans (hb.mono hq.size)⟩) ?_
  rintro u rfl
  rw [if_neg TB]
  simp only [Act.put, List.setIfInBounds_toArray, List.set_cons_succ, List.set_cons_zero]
  iterate 2 (refine wpRel_under rfl rfl (fun wq hq K hK => ?_); go_wp2)
  refine wpRel_under rfl rfl (fun wq hq K hK => ?_); obtain ⟨k0, k1, k2, j0, j1, j2⟩ := FX.out wq hq; go_wp2; clear k0 k1 k2 j0 j1 j2
  refine wpRel_callG #[.agg #[.int .i64 st, .int .i64 (sa + (n1 : Nat)), .slice a2 n2 c2]] rfl Try.func13 (by kernel_rfl) (by kernel_rfl) (by simp [go_sem]) ⟨W, Below.refl _ _⟩ ⟨_, rfl⟩
    (fun wq hq => (validF_any wq st (sa + (n1 : Nat)) _ B (HB.out.mono hq) (by omega) H2.out).mono fun e w'' ⟨he, hb⟩ => ⟨_, he, by rw [if_neg TB], hq.trans (hb.mono hq.size)⟩) ?_
  rintro u rfl
  rw [if_neg TB]
  simp only [Act.put, List.setIfInBounds_toArray, List.set_cons_succ, List.set_cons_zero]
  iterate 3 (refine wpRel_under rfl rfl (fun wq hq K hK => ?_); go_wp2)
  iterate 5 (refine wpRel_under rfl rfl (fun wq hq K hK => ?_); obtain ⟨k0, k1, k2, j0, j1, j2⟩ := FX.out wq hq; go_wp2; clear k0 k1 k2 j0 j1 j2)
  iterate 2 (refine wpRel_under rfl rfl (fun wq hq K hK => ?_); go_wp2)
  iterate 3 (refine wpRel_under rfl rfl (fun wq hq K hK => ?_); obtain ⟨k0, k1, k2, j0, j1, j2⟩ := FX.out wq hq; go_wp2; clear k0 k1 k2 j0 j1 j2)
  refine wpRel_callG #[.agg #[.int .i64 st, .int .i64 sa, .slice a1 n1 c1]] rfl Try.func82 (by kernel_rfl) (by kernel_rfl) (by simp [go_sem]) ⟨W, Below.refl _ _⟩ ⟨_, rfl⟩
    (fun wq hq => (E1.out wq).mono fun e w'' ⟨he, hb⟩ => ⟨_, he, by rw [if_pos rfl], hq.trans (hb.mono hq.size)⟩) ?_
  rintro u rfl
  rw [if_pos rfl]
  simp only [Act.put, List.setIfInBounds_toArray, List.set_cons_succ, List.set_cons_zero]
  iterate 2 (refine wpRel_under rfl rfl (fun wq hq K hK => ?_); go_wp2)
  refine wpRel_nil ?_
  intro w1 hb1
  have B1 : Hid (Ext W w1) := Lib.hid hb1
  clear hb1
  go_wp2_with fail
  refine region_grow_tail 12 (by kernel_rfl) (by kernel_rfl) (cloneT (A ++ B)) ?_
  simp only [List.take_succ_cons, List.take_zero, List.drop_succ_cons, List.drop_zero]
  have FXq : Hid (∀ wq, Ext w1.drew wq → Ext W wq) := Lib.hid fun wq hq => B1.out.trans ((Ext.drew w1).trans hq)
  iterate 8 (refine wpRelK_still rfl rfl (fun wq hq K hK => ?_); obtain ⟨k0, k1, k2, j0, j1, j2⟩ := FX.out wq (FXq.out wq hq.1); go_wp2; clear k0 k1 k2 j0 j1 j2)
  refine wpRelK_op rfl rfl (fun w8 hq8 K hK => ?_)
  have X8 : Hid (Ext W w8) := Lib.hid (FXq.out w8 hq8.1)
  go_wp2
  refine hK _ _ ((Below.refl _ _).alloc (Nat.le_refl _) _) ?_
  clear hK K hq8
  have CC : Hid (∀ wq, Ext (w8.alloc (.cells #[.slice a1 n1 c1, .slice a2 n2 c2] 27)) wq → wq.cell? ⟨w8.heap.size, 0, none⟩ = some (.slice a1 n1 c1) ∧ wq.cell? ⟨w8.heap.size, 1, none⟩ = some (.slice a2 n2 c2)) := Lib.hid fun wq hq => by
    have h := (hq.block w8.heap.size (by rw [World.size_alloc]; omega)).trans (alloc_new w8 (.cells #[.slice a1 n1 c1, .slice a2 n2 c2] 27))
    exact ⟨by rw [cell_of_row _ _ _ _ _ _ h]; rfl, by rw [cell_of_row _ _ _ _ _ _ h]; rfl⟩
  refine wpRelK_callF #[.slice (some ⟨w8.heap.size, 0, none⟩) 2 2] rfl Try.func85 (by kernel_rfl) (by kernel_rfl) (by simp [go_sem])
    (fun wq hq => by
      obtain ⟨d0, d1⟩ := CC.out wq (hq.dep 8 (by kernel_rfl))
      exact (concatF_any wq _ _ _ A B d0 d1 (HA.out.mono (FXq.out wq hq.1)) (HB.out.mono (FXq.out wq hq.1)) (by omega) (by omega) (by omega)).mono fun e w'' ⟨v', he, ho, hb⟩ => ⟨v', he, ho, hb⟩)
    (fun wq hq => by
      refine ownF_cls wq (A ++ B) (fun x hx => ?_) (by rw [List.length_append]; unfold maxLen; omega)
      rcases List.mem_append.1 hx with h | h
      · exact HA.out.cls x h
      · exact HB.out.cls x h) ?_
  intro wq7 hq7 u w7 hT7 x7
  have hT7' : OwnF w7 wq7.heap.size u (A ++ B) := hT7
  have hz7 := (HX.out.trans (FXq.out wq7 hq7.1)).size
  have O7 := Lib.hid hT7'
  obtain ⟨a3, n3, c3, rfl, hn3⟩ := hT7'.rd.slice2
  have HN3 := Lib.hid hn3
  clear hT7 hT7' hq7 hn3
  simp only [Act.put, List.setIfInBounds_toArray, List.set_cons_succ, List.set_cons_zero]
  refine wpRelK_still rfl rfl (fun wq hq K hK => ?_)
  go_wp2
  refine wpRelK_op rfl rfl (fun w9 hq9 K hK => ?_)
  have xW9 : Hid (Ext W w9) := Lib.hid (FXq.out w9 hq9.1)
  go_wp2
  refine hK _ _ ((Below.refl _ _).alloc (Nat.le_refl _) _) ?_
  clear hK K
  refine wpRelK_nil ?_
  intro w' hW hall
  have E7 : Ext w7 w' := hall 9 (by decide)
  have E9 : Ext (w9.alloc (.cells #[.int .i64 0, .int .i64 0, .slice none 0 0] 31)) w' := hall 11 (by decide)
  obtain ⟨ga, hga⟩ : ∃ ga, w9.heap.size = ga := ⟨_, rfl⟩
  have hA0 := (E9.block w9.heap.size (by rw [World.size_alloc]; omega)).trans (alloc_new _ _)
  rw [hga] at hA0 ⊢
  have hga3 : W.heap.size ≤ ga := by rw [← hga]; exact xW9.out.size
  have xWp : Ext W w' := FXq.out w' hW
  have OA0 : OwnF w' w.heap.size (.slice a3 n3 c3) (A ++ B) := (O7.out.kept E7).mono hz7
  have hab := OA0.apart hA0 (by decide)
  have PA := put3 hA0 (.int .i64 st) (.int .i64 sa) (.slice a3 n3 c3)
  obtain ⟨q0, q1, q2, f0, f1, f2⟩ := blk3 hA0
  obtain ⟨wS, hwS⟩ : ∃ wS, ((w'.setCell ⟨ga, 0, none⟩ (.int .i64 st)).setCell ⟨ga, 1, none⟩ (.int .i64 sa)).setCell ⟨ga, 2, none⟩ (.slice a3 n3 c3) = wS := ⟨_, rfl⟩
  rw [hwS] at PA
  have XS := Lib.hid (Below.chg xWp PA.chg (fun k hk => by omega) xWp.size)
  have OA := Lib.hid (OA0.chg PA.chg hab)
  have HAT := Lib.hid PA.heap
  obtain ⟨k0, k1, k2, -, -, -⟩ := blk3 PA.heap
  have HV2 := Lib.hid (validF_any wS st sa _ (A ++ B) OA.out.rd (by rw [List.length_append]; omega) H3.out)
  clear hA0 OA0 hab PA E7 E9 hall xWp hW xW9 hq9 hga FXq O7 x7 B1 CC X8
  go_wp2_with fail
  clear hwS q0 q1 q2 f0 f1 f2 k0 k1 k2
  refine HV2.out.mono ?_
  rintro e w10 ⟨rfl, b10⟩
  have x10 : Ext wS w10 := b10
  have XWX := Lib.hid (Below.trans XS.out (x10.mono XS.out.size))
  obtain ⟨k0, k1, k2, -, -, -⟩ := blk3 ((x10.block ga (Array.getElem?_eq_some_iff.1 HAT.out).1).trans HAT.out)
  have OA10 := Lib.hid (OA.out.kept x10)
  have h1 := (XWX.out.block (w.heap.size + 1 + 1) (by omega)).trans G2.out
  obtain ⟨q0, q1, q2, e0, e1, e2⟩ := blk3 h1
  have hx10 : Ext w w10 := HX.out.trans XWX.out
  have PV := put3 h1 (.int .i64 st) (.int .i64 sa) (.slice a3 n3 c3)
  obtain ⟨wV, hwV⟩ : ∃ wV, ((w10.setCell ⟨w.heap.size + 1 + 1, 0, none⟩ (.int .i64 st)).setCell ⟨w.heap.size + 1 + 1, 1, none⟩ (.int .i64 sa)).setCell ⟨w.heap.size + 1 + 1, 2, none⟩ (.slice a3 n3 c3) = wV := ⟨_, rfl⟩
  rw [hwV] at PV
  have XV := Lib.hid (Below.chg hx10 PV.chg (fun k hk => by omega) hx10.size)
  have OAV := Lib.hid (OA10.out.chg PV.chg (OA10.out.apart h1 (by decide)))
  have HP1 := Lib.hid PV.heap
  clear HV2 b10 x10 PV h1 hx10
  go_wp2_with fail
  obtain ⟨s0, s1, s2, -, -, -⟩ := blk3 HP1.out
  refine bodyPost_ret (v := .tuple #[.agg #[.int .i64 st, .int .i64 sa, .slice a3 n3 c3], .bool true]) (by simp [results, Try.results46, go_sem, s0, s1, s2]) rfl ?_
  exact ⟨.slice a3 n3 c3, rfl, OAV.out, XV.out⟩
end Go.Proofs.Ytibojlpeaolfbaa

/- Walks: are numbers, and lists of numbers, the same. -/
namespace Go.Proofs.Ytibojlpeaolfbaa
open Go Go.RowKit

theorem isN_order (k : FloatKind) (r : Nat) : (k.format.order r r != some Ordering.eq) = isN k r := by
  cases hn : isN k r with
  | true =>
    have : k.format.order r r = none := by
      unfold isN FloatKind.decode at hn
      unfold Ieee.Format.order
      obtain ⟨s, t, e⟩ := datum_nan hn
      rw [e]
      rfl
    rw [this]; rfl
  | false => rw [order_self hn]; rfl

theorem run_bits (w : World) (r : Nat) : (callFunc 139 #[.float .f32 r]).run Try.prog w = .ok (.value (.int .u32 (r : Int))) w := by kernel_rfl

set_option maxRecDepth 100000 in
set_option maxHeartbeats 400000 in
theorem bitsOf_any (w : World) (r x : Nat) (hr : FV .f32 r x) :
    Calls Try.prog 121 #[.float .f32 r] w fun e w' => e = .returned (.int .i64 (x : Int)) ∧ w' = w := by
  have ho := isN_order .f32 r
  cases hn : isN .f32 r with
  | true =>
    rw [hn] at ho
    have hx : x = 2143289344 := by rw [← hr.2, can_of_nan hn]; rfl
    subst hx
    go_enter Try.func121, Try.ntmps121
    go_wp2
    go_ret
    exact ⟨rfl, rfl⟩
  | false =>
    rw [hn] at ho
    obtain rfl : r = x := by rw [← hr.2, can_of_not hn]
    have hlt : r < 4294967296 := hr.1
    have hb := run_bits
    go_enter Try.func121, Try.ntmps121
    go_wp2
    go_ret
    exact ⟨rfl, rfl⟩
set_option maxRecDepth 100000 in
set_option maxHeartbeats 400000 in
theorem l01Bits_any (w : World) (r x : Nat) (hr : FV .f32 r x) :
    Calls Try.prog 129 #[.float .f32 r] w fun e w' => e = .returned (.int .i64 (x : Int)) ∧ w' = w := by
  have ho := isN_order .f32 r
  cases hn : isN .f32 r with
  | true =>
    rw [hn] at ho
    have hx : x = 2143289344 := by rw [← hr.2, can_of_nan hn]; rfl
    subst hx
    go_enter Try.func129, Try.ntmps129
    go_wp2
    go_ret
    exact ⟨rfl, rfl⟩
  | false =>
    rw [hn] at ho
    obtain rfl : r = x := by rw [← hr.2, can_of_not hn]
    have hlt : r < 4294967296 := hr.1
    have hb := run_bits
    go_enter Try.func129, Try.ntmps129
    go_wp2
    go_ret
    exact ⟨rfl, rfl⟩
end Go.Proofs.Ytibojlpeaolfbaa

/- Walks: are numbers the same. -/
namespace Go.Proofs.Ytibojlpeaolfbaa
open Go Go.RowKit

theorem beq_cast (x y : Nat) : ((x : Int) == (y : Int)) = (x == y) := by
  rw [Bool.eq_iff_iff]; simp only [beq_iff_eq]; omega
set_option maxRecDepth 100000 in
theorem sameNumber_any (w : World) (r s x y : Nat) (hr : FV .f32 r x) (hs : FV .f32 s y) :
    Calls Try.prog 96 #[.float .f32 r, .float .f32 s] w fun e w' => e = .returned (.bool (x == y)) ∧ w' = w := by
  rw [← beq_cast]
  go_enter Try.func96, Try.ntmps96
  go_wp2_with fail
  refine (bitsOf_any w r x hr).mono ?_
  rintro e1 w1 ⟨rfl, rfl⟩
  go_wp2_with fail
  refine (bitsOf_any _ s y hs).mono ?_
  rintro e2 w2 ⟨rfl, rfl⟩
  go_wp2
  go_ret
  exact ⟨rfl, rfl⟩

set_option maxRecDepth 100000 in
theorem l01Same_any (w : World) (r s x y : Nat) (hr : FV .f32 r x) (hs : FV .f32 s y) :
    Calls Try.prog 104 #[.float .f32 r, .float .f32 s] w fun e w' => e = .returned (.bool (x == y)) ∧ w' = w := by
  rw [← beq_cast]
  go_enter Try.func104, Try.ntmps104
  go_wp2_with fail
  refine (l01Bits_any w r x hr).mono ?_
  rintro e1 w1 ⟨rfl, rfl⟩
  go_wp2_with fail
  refine (l01Bits_any _ s y hs).mono ?_
  rintro e2 w2 ⟨rfl, rfl⟩
  go_wp2
  go_ret
  exact ⟨rfl, rfl⟩
end Go.Proofs.Ytibojlpeaolfbaa

/- Walks: are lists of numbers the same. -/
namespace Go.Proofs.Ytibojlpeaolfbaa
open Go Go.RowKit

/-- The first j numbers are the same. -/
def sameTo (A B : List Nat) (j : Nat) : Bool := (List.range j).all fun i => A.getD i 0 == B.getD i 0
def sameL (A B : List Nat) : Bool := A.length == B.length && sameTo A B A.length
theorem sameTo_succ (A B : List Nat) (j : Nat) : sameTo A B (j + 1) = (sameTo A B j && (A.getD j 0 == B.getD j 0)) := by simp [sameTo, List.range_succ]
theorem sameTo_false {A B : List Nat} {j n : Nat} (hj : j < n) (h : (A.getD j 0 == B.getD j 0) = false) : sameTo A B n = false := by
  rw [Bool.eq_false_iff]
  intro hc
  have := List.all_eq_true.1 hc j (List.mem_range.2 hj)
  rw [h] at this
  cases this
theorem sameL_len {A B : List Nat} (h : A.length ≠ B.length) : sameL A B = false := by simp [sameL, h]

set_option maxRecDepth 100000 in
set_option maxHeartbeats 800000 in
theorem l01SameAll_any (w : World) (v1 v2 : Value) (A B : List Nat) (h1 : RdF w v1 A) (h2 : RdF w v2 B) (hm : A.length ≤ 1048576) (hm2 : B.length ≤ 1048576) :
    Calls Try.prog 98 #[v1, v2] w fun e w' => e = .returned (.bool (sameL A B)) ∧ ∃ n, w' = w.drewN n := by
  obtain ⟨a1, c1, rfl, hc1, -, hcell1⟩ := h1.opened
  obtain ⟨a2, c2, rfl, hc2, -, hcell2⟩ := h2.opened
  clear h1 h2
  by_cases hl : A.length = B.length
  · have hne : ((A.length : Int) != (B.length : Int)) = false := by rw [hl]; simp
    have Hl := Lib.hid hl
    clear hl
    go_enter Try.func98, Try.ntmps98
    go_wp2
    go_loopw [5] (fun i wr => ∃ k q : Nat, k ≤ A.length ∧ i = .int .i64 k ∧ sameTo A B k = true ∧ wr = w.drewN q) (fun i _ => A.length - (intOf i).toNat)
    case atStart => exact ⟨0, 0, Nat.zero_le _, rfl, rfl, rfl⟩
    case round =>
      obtain ⟨wi, rfl⟩ : ∃ wi : World, wi = wr := ⟨_, rfl⟩
      obtain ⟨k, q, hk, rfl, hsk, hq⟩ := hrel
      have Hsk := Lib.hid hsk
      by_cases hlt : k < A.length
      · have hlt2 : k < B.length := by have := Hl.out; omega
        obtain ⟨b, o, r, rfl, d0, f0⟩ := hcell1 k hlt
        obtain ⟨b', o', s, rfl, g0, e0⟩ := hcell2 k hlt2
        have D0 : wi.cell? ⟨b, o + k, none⟩ = some (.float .f32 r) := by rw [hq]; exact d0
        have G0 : wi.cell? ⟨b', o' + k, none⟩ = some (.float .f32 s) := by rw [hq]; exact g0
        have Hq := Lib.hid hq
        clear hcell1 hcell2 d0 g0 hq hsk
        go_wp2
        cases hxy : (A.getD k 0 == B.getD k 0) with
        | true =>
          have Hxy := Lib.hid hxy
          clear hxy
          refine region_rel_all (by kernel_rfl) (by kernel_rfl) (Drawn wi) (fun _ _ v => v = .bool true) ⟨1, rfl⟩ ?_
          repeat (refine wpRel_draw rfl rfl (fun nq K hK => ?_); go_wp2)
          refine wpRel_callF #[.float .f32 r, .float .f32 s] Try.func104 (by kernel_rfl) (by kernel_rfl) (by simp [go_sem]) ⟨wi, 0, rfl⟩ ⟨_, rfl⟩ ?_ ?_
          · rintro wd ⟨nd, rfl⟩
            refine (l01Same_any (wi.drewN nd) r s _ _ f0 e0).mono ?_
            rintro e w'' ⟨rfl, rfl⟩
            exact ⟨_, rfl, by rw [Hxy.out], nd, rfl⟩
          · rintro v rfl
            simp only [Act.put, List.setIfInBounds_toArray, List.set_cons_succ, List.set_cons_zero]
            repeat (refine wpRel_draw rfl rfl (fun nq K hK => ?_); go_wp2)
            refine wpRel_nil ?_
            rintro wd ⟨nd, hwd⟩
            have Hwd := Lib.hid hwd
            clear hwd
            go_wp2
            exact ⟨⟨k + 1, q + nd, by omega, by go_num, by rw [sameTo_succ, Hsk.out, Hxy.out]; rfl, by rw [Hwd.out, Hq.out, World.drewN_drewN]⟩, by simp [intOf]; omega⟩
        | false =>
          have Hxy := Lib.hid hxy
          clear hxy
          refine region_rel_all (by kernel_rfl) (by kernel_rfl) (Drawn wi) (fun _ _ v => v = .bool false) ⟨1, rfl⟩ ?_
          repeat (refine wpRel_draw rfl rfl (fun nq K hK => ?_); go_wp2)
          refine wpRel_callF #[.float .f32 r, .float .f32 s] Try.func104 (by kernel_rfl) (by kernel_rfl) (by simp [go_sem]) ⟨wi, 0, rfl⟩ ⟨_, rfl⟩ ?_ ?_
          · rintro wd ⟨nd, rfl⟩
            refine (l01Same_any (wi.drewN nd) r s _ _ f0 e0).mono ?_
            rintro e w'' ⟨rfl, rfl⟩
            exact ⟨_, rfl, by rw [Hxy.out], nd, rfl⟩
          · rintro v rfl
            simp only [Act.put, List.setIfInBounds_toArray, List.set_cons_succ, List.set_cons_zero]
            repeat (refine wpRel_draw rfl rfl (fun nq K hK => ?_); go_wp2)
            refine wpRel_nil ?_
            rintro wd ⟨nd, hwd⟩
            have Hwd := Lib.hid hwd
            clear hwd
            go_wp2
            go_ret
            exact ⟨by unfold sameL; rw [sameTo_false hlt Hxy.out, Bool.and_false]; rfl, q + nd, by rw [Hwd.out, Hq.out, World.drewN_drewN]⟩
      · have Hq := Lib.hid hq
        clear hq hsk
        go_wp2
        go_ret
        obtain rfl : k = A.length := by omega
        exact ⟨by unfold sameL; rw [Hsk.out, Hl.out]; simp, q, Hq.out⟩
  · have hne : ((A.length : Int) != (B.length : Int)) = true := by simp; omega
    have hs := sameL_len hl
    rw [hs]
    clear hs
    go_enter Try.func98, Try.ntmps98
    go_wp2
    go_ret
    exact ⟨rfl, 0, rfl⟩
end Go.Proofs.Ytibojlpeaolfbaa

/- Walks: EqualFunc over numbers. -/
namespace Go.Proofs.Ytibojlpeaolfbaa
open Go Go.RowKit

set_option maxRecDepth 100000 in
set_option maxHeartbeats 800000 in
theorem equalF_any (w : World) (v1 v2 : Value) (A B : List Nat) (h1 : RdF w v1 A) (h2 : RdF w v2 B) (hm : A.length ≤ 1048576) (hm2 : B.length ≤ 1048576) :
    Calls Try.prog 95 #[v1, v2, .func (.func 96) #[] #[]] w fun e w' => e = .returned (.bool (sameL A B)) ∧ w' = w := by
  obtain ⟨a1, c1, rfl, hc1, -, hcell1⟩ := h1.opened
  obtain ⟨a2, c2, rfl, hc2, -, hcell2⟩ := h2.opened
  clear h1 h2
  by_cases hl : A.length = B.length
  · have hne : ((A.length : Int) != (B.length : Int)) = false := by rw [hl]; simp
    have Hl := Lib.hid hl
    clear hl
    go_enter Try.func95, Try.ntmps95
    go_wp2
    go_loop [17] (fun i => ∃ k : Nat, k ≤ A.length ∧ i = .int .i64 k ∧ sameTo A B k = true) (fun i => A.length - (intOf i).toNat)
    case atStart => exact ⟨0, Nat.zero_le _, rfl, rfl⟩
    case round =>
      obtain ⟨k, hk, rfl, hsk⟩ := hrel
      have Hsk := Lib.hid hsk
      by_cases hlt : k < A.length
      · have hlt2 : k < B.length := by have := Hl.out; omega
        obtain ⟨b, o, r, rfl, d0, f0⟩ := hcell1 k hlt
        obtain ⟨b', o', s, rfl, g0, e0⟩ := hcell2 k hlt2
        clear hcell1 hcell2 hsk
        go_wp2_with fail
        refine (sameNumber_any w r s _ _ f0 e0).mono ?_
        rintro e1 w1 ⟨rfl, hw1⟩
        subst hw1
        cases hxy : (A.getD k 0 == B.getD k 0) with
        | true =>
          have Hxy := Lib.hid hxy
          clear hxy
          go_wp2
          exact ⟨⟨k + 1, by omega, by go_num, by rw [sameTo_succ, Hsk.out, Hxy.out]; rfl⟩, by simp [intOf]; omega⟩
        | false =>
          have Hxy := Lib.hid hxy
          clear hxy
          go_wp2
          go_ret
          exact ⟨by unfold sameL; rw [sameTo_false hlt Hxy.out, Bool.and_false]; rfl, rfl⟩
      · clear hsk
        go_wp2
        go_ret
        obtain rfl : k = A.length := by omega
        exact ⟨by unfold sameL; rw [Hsk.out, Hl.out]; simp, rfl⟩
  · have hne : ((A.length : Int) != (B.length : Int)) = true := by simp; omega
    have hs := sameL_len hl
    rw [hs]
    clear hs
    go_enter Try.func95, Try.ntmps95
    go_wp2
    go_ret
    exact ⟨rfl, rfl⟩

set_option maxRecDepth 100000 in
set_option maxHeartbeats 800000 in
theorem sameList_any (w : World) (v1 v2 : Value) (A B : List Nat) (h1 : RdF w v1 A) (h2 : RdF w v2 B) (hm : A.length ≤ 1048576) (hm2 : B.length ≤ 1048576) :
    Calls Try.prog 57 #[v1, v2] w fun e w' => e = .returned (.bool (sameL A B)) ∧ w' = w := by
  go_enter Try.func57, Try.ntmps57
  go_wp2_with fail
  refine (equalF_any w v1 v2 A B h1 h2 hm hm2).mono ?_
  rintro e1 w1 ⟨rfl, hw1⟩
  subst hw1
  go_wp2
  go_ret
  exact ⟨rfl, rfl⟩
end Go.Proofs.Ytibojlpeaolfbaa

/- Walks: frames that are the same; a frame that is drawn; a choice. -/
namespace Go.Proofs.Ytibojlpeaolfbaa
open Go Go.RowKit

theorem sameL_refl (A : List Nat) : sameL A A = true := by
  unfold sameL sameTo
  simp
theorem drewN_below {w : World} {W : World} (h : Ext w W) (n : Nat) : Ext w (W.drewN n) := Below.drewN h n
set_option maxRecDepth 100000 in
set_option maxHeartbeats 1600000 in
theorem sameFrameI_any (w : World) (st sa : Int) (v1 v2 : Value) (L : List Nat) (h1 : RdF w v1 L) (h2 : RdF w v2 L) (hl : L.length ≤ 1000) :
    Calls Try.prog 14 #[.agg #[.int .i64 st, .int .i64 sa, v1], .agg #[.int .i64 st, .int .i64 sa, v2]] w fun e w' => e = .returned (.bool true) ∧ Ext w w' := by
  obtain ⟨a1, n1, c1, rfl, -⟩ := h1.slice2
  obtain ⟨a2, n2, c2, rfl, -⟩ := h2.slice2
  obtain ⟨W, hW⟩ : ∃ W, (w.alloc (.cells #[.int .i64 st, .int .i64 sa, .slice a1 n1 c1] 31)).alloc (.cells #[.int .i64 st, .int .i64 sa, .slice a2 n2 c2] 31) = W := ⟨_, rfl⟩
  have hx : Ext w W := by rw [← hW]; exact ((Below.refl _ _).alloc (Nat.le_refl _) _).alloc (by simp) _
  have g0 : W.heap[w.heap.size]? = some (.cells #[.int .i64 st, .int .i64 sa, .slice a1 n1 c1] 31 (0, 0)) := by rw [← hW, Below.heap_alloc _ _ _ (by simp)]; exact alloc_new _ _
  have g1 : W.heap[w.heap.size + 1]? = some (.cells #[.int .i64 st, .int .i64 sa, .slice a2 n2 c2] 31 (0, 0)) := by
    have := alloc_new (w.alloc (.cells #[.int .i64 st, .int .i64 sa, .slice a1 n1 c1] 31)) (.cells #[.int .i64 st, .int .i64 sa, .slice a2 n2 c2] 31)
    rwa [World.size_alloc, hW] at this
  obtain ⟨k0, k1, k2, -, -, -⟩ := blk3 g0
  obtain ⟨j0, j1, j2, -, -, -⟩ := blk3 g1
  have HS := Lib.hid (sameList_any W _ _ L L (h1.mono hx) (h2.mono hx) (by omega) (by omega))
  rw [sameL_refl] at HS
  have HX := Lib.hid hx
  clear h1 h2 g0 g1 hx
  go_enter Try.func14, Try.ntmps14
  go_wp2_with fail
  refine HS.out.mono ?_
  rintro e w1 ⟨rfl, hw1⟩
  obtain rfl : W = w1 := hw1.symm
  clear hw1 HS
  go_wp2
  go_ret
  exact ⟨rfl, HX.out⟩
set_option maxRecDepth 100000 in
set_option maxHeartbeats 1600000 in
theorem sameFrameS_any (w : World) (st sa : Int) (v1 v2 : Value) (L : List Nat) (h1 : RdF w v1 L) (h2 : RdF w v2 L) (hl : L.length ≤ 1000) :
    Calls Try.prog 61 #[.agg #[.int .i64 st, .int .i64 sa, v1], .agg #[.int .i64 st, .int .i64 sa, v2]] w fun e w' => e = .returned (.bool true) ∧ Ext w w' := by
  obtain ⟨a1, n1, c1, rfl, -⟩ := h1.slice2
  obtain ⟨a2, n2, c2, rfl, -⟩ := h2.slice2
  obtain ⟨W, hW⟩ : ∃ W, (w.alloc (.cells #[.int .i64 st, .int .i64 sa, .slice a1 n1 c1] 31)).alloc (.cells #[.int .i64 st, .int .i64 sa, .slice a2 n2 c2] 31) = W := ⟨_, rfl⟩
  have hx : Ext w W := by rw [← hW]; exact ((Below.refl _ _).alloc (Nat.le_refl _) _).alloc (by simp) _
  have g0 : W.heap[w.heap.size]? = some (.cells #[.int .i64 st, .int .i64 sa, .slice a1 n1 c1] 31 (0, 0)) := by rw [← hW, Below.heap_alloc _ _ _ (by simp)]; exact alloc_new _ _
  have g1 : W.heap[w.heap.size + 1]? = some (.cells #[.int .i64 st, .int .i64 sa, .slice a2 n2 c2] 31 (0, 0)) := by
    have := alloc_new (w.alloc (.cells #[.int .i64 st, .int .i64 sa, .slice a1 n1 c1] 31)) (.cells #[.int .i64 st, .int .i64 sa, .slice a2 n2 c2] 31)
    rwa [World.size_alloc, hW] at this
  obtain ⟨k0, k1, k2, -, -, -⟩ := blk3 g0
  obtain ⟨j0, j1, j2, -, -, -⟩ := blk3 g1
  have HS := Lib.hid (l01SameAll_any W _ _ L L (h1.mono hx) (h2.mono hx) (by omega) (by omega))
  rw [sameL_refl] at HS
  have HX := Lib.hid hx
  clear h1 h2 g0 g1 hx
  go_enter Try.func61, Try.ntmps61
  go_wp2_with fail
  refine HS.out.mono ?_
  rintro e w1 ⟨rfl, n, rfl⟩
  clear HS
  go_wp2
  go_ret
  exact ⟨rfl, drewN_below HX.out n⟩
set_option maxRecDepth 100000 in
set_option maxHeartbeats 1600000 in
theorem b10FramesE_any (w : World) (v1 v2 : Value) (Fs : List FM) (h1 : RdFr w v1 Fs) (h2 : RdFr w v2 Fs) (hl : Fs.length ≤ 1000) (hL : ∀ j, j < Fs.length → (frAt Fs j).L.length ≤ 1000) :
    Calls Try.prog 18 #[v1, v2] w fun e w' => e = .returned (.bool true) ∧ Ext w w' := by
  obtain ⟨a1, c1, rfl, -, -, hc1⟩ := h1.opened
  obtain ⟨a2, c2, rfl, -, -, hc2⟩ := h2.opened
  clear h1 h2
  go_enter Try.func18, Try.ntmps18
  go_wp2_with fail
  go_loopw [13] (fun i wr => ∃ j : Nat, j ≤ Fs.length ∧ i = .int .i64 j ∧ Ext w wr) (fun i _ => Fs.length - (intOf i).toNat)
  case atStart => exact ⟨0, Nat.zero_le _, rfl, Ext.refl _⟩
  case round =>
    obtain ⟨wi, rfl⟩ : ∃ wi : World, wi = wr := ⟨_, rfl⟩
    obtain ⟨j, hj, rfl, hb⟩ := hrel
    by_cases hlt : j < Fs.length
    · obtain ⟨b1, o1, x1, d1, rfl, hl1, p0, p1, p2, R1⟩ := hc1 j hlt
      obtain ⟨b2, o2, x2, d2, rfl, hl2, q0, q1, q2, R2⟩ := hc2 j hlt
      have HC := Lib.hid (fun wq (hq : Ext wi wq) => And.intro (((bcell (hb.trans hq)).1 _ _ hl1).trans p0) (And.intro (((bcell (hb.trans hq)).1 _ _ hl1).trans p1) (And.intro (((bcell (hb.trans hq)).1 _ _ hl1).trans p2) (And.intro (((bcell (hb.trans hq)).1 _ _ hl2).trans q0) (And.intro (((bcell (hb.trans hq)).1 _ _ hl2).trans q1) (((bcell (hb.trans hq)).1 _ _ hl2).trans q2))))))
      have HK := Lib.hid (fun wq (hq : Ext wi wq) => sameFrameS_any wq (frAt Fs j).st (frAt Fs j).sa _ _ (frAt Fs j).L (R1.mono (hb.trans hq)) (R2.mono (hb.trans hq)) (hL j hlt))
      have HB := Lib.hid hb
      clear hc1 hc2 p0 p1 p2 q0 q1 q2 R1 R2 hb hL
      generalize frAt Fs j = f at *
      obtain ⟨st, sa, L⟩ := f
      simp only at *
      go_wp2_with fail
      refine region_rel_all (by kernel_rfl) (by kernel_rfl) (Below wi.heap.size wi) (fun _ _ v => v = .bool true) (Below.drewN (Below.refl _ _) 1) ?_
      iterate 8 (refine wpRel_under rfl rfl (fun wq hq K hK => ?_); obtain ⟨p0, p1, p2, q0, q1, q2⟩ := HC.out wq hq; go_wp2; clear p0 p1 p2 q0 q1 q2)
      refine wpRel_callF #[.agg #[.int .i64 st, .int .i64 sa, .slice x1 L.length d1], .agg #[.int .i64 st, .int .i64 sa, .slice x2 L.length d2]] Try.func61 (by kernel_rfl) (by kernel_rfl) (by simp [go_sem]) ⟨wi, Below.refl _ _⟩ ⟨_, rfl⟩
        (fun wq hq => (HK.out wq hq).mono fun e w'' ⟨he, hb⟩ => ⟨_, he, rfl, Below.trans hq (hb.mono hq.size)⟩) ?_
      rintro u rfl
      simp only [Act.put, List.setIfInBounds_toArray, List.set_cons_succ, List.set_cons_zero]
      refine wpRel_under rfl rfl (fun wq hq K hK => ?_); go_wp2
      refine wpRel_nil ?_
      intro wd hd
      have HD := Lib.hid (Below.trans HB.out (hd.mono HB.out.size))
      clear hd
      go_wp2
      exact ⟨⟨j + 1, by omega, by go_num, HD.out⟩, by simp [intOf]; omega⟩
    · obtain rfl : j = Fs.length := by omega
      clear hc1 hc2
      go_wp2
      go_ret
      exact ⟨rfl, hb⟩
set_option maxRecDepth 100000 in
set_option maxHeartbeats 1600000 in
theorem b10FrameD_any (w : World) (v : Value) (n : Nat) (hy : RdY w v n) (hn : n ≤ 1048576) :
    Calls Try.prog 26 #[v] w fun e w' => ∃ (f : FM) (v' : Value), e = .returned (.agg #[.int .i64 f.st, .int .i64 f.sa, v']) ∧ Ev f ∧ OwnF w' w.heap.size v' f.L ∧ Below w.heap.size w w' := by
  obtain ⟨ad, c, rfl, -, -⟩ := hy.opened
  obtain ⟨w0, hw0⟩ : ∃ w0, w.alloc (.cells #[.int .i64 0, .int .i64 0, .slice none 0 0] 31) = w0 := ⟨_, rfl⟩
  have x0 : Ext w w0 := by rw [← hw0]; exact (Below.refl _ _).alloc (Nat.le_refl _) _
  have hr0 : w0.heap[w.heap.size]? = some (.cells #[.int .i64 0, .int .i64 0, .slice none 0 0] 31 (0, 0)) := by rw [← hw0]; exact alloc_new _ _
  have z0 : w0.heap.size = w.heap.size + 1 := by rw [← hw0]; exact World.size_alloc _ _
  have HY := Lib.hid (hy.mono x0)
  have HR0 := Lib.hid hr0
  have HX0 := Lib.hid x0
  clear hy hr0 x0
  go_enter Try.func26, Try.ntmps26
  go_wp2_with fail
  clear hw0
  refine (l00From_any w0 ad n c).mono ?_
  rintro e w1 ⟨rfl, hw1⟩
  have b1 : Ext w0 w1 := by rw [hw1]; exact (Below.refl _ _).alloc (Nat.le_refl _) _
  have hs1 : Src w1 w0.heap.size ad n c 0 := ⟨0, by rw [hw1]; exact alloc_new _ _, by decide, by decide⟩
  have z1 : w1.heap.size = w0.heap.size + 1 := by rw [hw1]; exact World.size_alloc _ _
  have HP := Lib.hid (drawFrame_any w0 w1 w0.heap.size ad n c 0 HY.out b1 (Nat.le_refl _) hs1 hn (by omega) (by omega))
  have hz0 := z0
  rw [z0] at HP
  clear hw1 hs1 b1
  go_wp2_with fail
  refine HP.out.mono ?_
  rintro e w3 ⟨f, v3, t', rfl, ev, o3, s3, h1, h2, b3, c3⟩
  obtain ⟨st, sa, L⟩ := f
  obtain ⟨a3, n3, c3', rfl, -⟩ := o3.rd.slice2
  have h4 := (b3.block w.heap.size (by omega)).trans HR0.out
  have PV := put3 h4 (.int .i64 st) (.int .i64 sa) (.slice a3 n3 c3')
  obtain ⟨q0, q1, q2, e0, e1, e2⟩ := blk3 h4
  obtain ⟨wV, hwV⟩ : ∃ wV, ((w3.setCell ⟨w.heap.size, 0, none⟩ (.int .i64 st)).setCell ⟨w.heap.size, 1, none⟩ (.int .i64 sa)).setCell ⟨w.heap.size, 2, none⟩ (.slice a3 n3 c3') = wV := ⟨_, rfl⟩
  rw [hwV] at PV
  have hx3 : Ext w w3 := HX0.out.trans (by unfold Ext; rw [hz0]; exact b3)
  have XV := Lib.hid (Below.chg hx3 PV.chg (fun k hk => by omega) hx3.size)
  have OAV := Lib.hid ((o3.chg PV.chg (o3.apart h4 (by decide))).mono (B' := w.heap.size) (by omega))
  have HP1 := Lib.hid PV.heap
  have EV := Lib.hid ev
  clear HP b3 c3 o3 s3 PV h4 hx3 ev
  go_wp2_with fail
  obtain ⟨s0, s1, s2, -, -, -⟩ := blk3 HP1.out
  refine bodyPost_ret (v := .agg #[.int .i64 st, .int .i64 sa, .slice a3 n3 c3']) (by simp [results, Try.results26, go_sem, s0, s1, s2]) rfl ?_
  exact ⟨⟨st, sa, L⟩, .slice a3 n3 c3', rfl, EV.out, OAV.out, XV.out⟩
set_option maxRecDepth 100000 in
set_option maxHeartbeats 800000 in
theorem b10At1_any (w : World) (v : Value) (n : Nat) (hy : RdY w v n) (hn : n ≤ 1048576) :
    Calls Try.prog 19 #[v, .int .i64 0, .int .i64 1] w fun e w' => e = .returned (.int .i64 0) ∧ w' = w := by
  obtain ⟨a, c, rfl, -, -⟩ := hy.opened
  clear hy
  go_enter Try.func19, Try.ntmps19
  go_wp2
  go_ret
  exact ⟨rfl, rfl⟩
end Go.Proofs.Ytibojlpeaolfbaa

