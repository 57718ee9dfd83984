/- Floats: a float32 made wide, without its sign, made narrow again is the float32 without its sign; tests of sizes. -/
import Derived.Test.YthacadbdncfocaaCv
namespace Go.Proofs.Ythacadbdncfocaa
open Go Go.RowKit

theorem cut_zero (neg : Bool) (n : Nat) : Ieee.Toward.even.cut neg n 0 = n := by
  unfold Ieee.Toward.cut
  simp only [Nat.zero_min, Nat.shiftLeft_zero, Nat.div_one, Nat.mod_one]
  rfl
theorem cut_whole (neg : Bool) (m k : Nat) (h : k ≤ (m * 2 ^ k).log2 + 2) : Ieee.Toward.even.cut neg (m * 2 ^ k) k = m := by
  unfold Ieee.Toward.cut
  have hp : 0 < 2 ^ k := Nat.two_pow_pos _
  have e : 1 <<< min k ((m * 2 ^ k).log2 + 2) = 2 ^ k := by rw [Nat.min_eq_left h, Nat.shiftLeft_eq, Nat.one_mul]
  rw [e]
  dsimp only
  rw [Nat.mul_div_cancel _ hp, Nat.mul_mod_left]
  have h1 : ¬ 2 ^ k < 2 * 0 := by omega
  have h2 : (2 ^ k == 2 * 0) = false := by rw [beq_eq_false_iff_ne]; omega
  simp [h2]
theorem log2_mul_pow (m k : Nat) (h : m ≠ 0) : (m * 2 ^ k).log2 = m.log2 + k := by
  have hp : 0 < 2 ^ k := Nat.two_pow_pos _
  have h0 : m * 2 ^ k ≠ 0 := by
    intro e
    rcases Nat.mul_eq_zero.1 e with e | e
    · exact h e
    · omega
  apply (Nat.log2_eq_iff h0).2
  have h1 := (Nat.log2_eq_iff h).1 rfl
  constructor
  · rw [Nat.pow_add]; exact Nat.mul_le_mul_right _ h1.1
  · rw [show m.log2 + k + 1 = (m.log2 + 1) + k by omega, Nat.pow_add]; exact Nat.mul_lt_mul_of_pos_right h1.2 hp
/-- What a word of a number stands for, and the word's rung. -/
theorem read32 (r : Nat) {s : Bool} {m : Nat} {e : Int} (h : Ieee.single.read r = .number s m e) :
    (s = (r / 2147483648 % 2 == 1)) ∧ ((m < 8388608 ∧ e = -149 ∧ r % 2147483648 = m) ∨ (8388608 ≤ m ∧ m < 16777216 ∧ -149 ≤ e ∧ e ≤ 104 ∧ ((e + 149).toNat * 8388608 + m = r % 2147483648))) := by
  have e1 : Ieee.single.signWeight = 2147483648 := by decide
  have e2 : Ieee.single.binade = 8388608 := by decide
  have e3 : Ieee.single.infRung = 2139095040 := by decide
  have e4 : Ieee.single.leastPlace = -149 := by decide
  unfold Ieee.Format.read at h
  rw [e1, e2, e3, e4] at h
  dsimp only at h
  split at h
  · cases h
    exact ⟨rfl, .inl ⟨by omega, rfl, rfl⟩⟩
  · split at h
    · cases h
      refine ⟨rfl, .inr ⟨by omega, by omega, by omega, by omega, ?_⟩⟩
      omega
    · split at h <;> cases h
theorem word32 (rung : Nat) (h : rung < 2139095040) : Ieee.single.nearest false 0 0 = 0 ∧ Ieee.single.word false rung = rung := ⟨by decide, rfl⟩
/-- What the wide word of a number stands for. -/
theorem wide_number (s : Bool) (m : Nat) (e : Int) (hm0 : m ≠ 0) (hm : m < 16777216) (he : e ≤ 104) (he2 : -149 ≤ e) :
    ∃ rung, Ieee.double.nearest s m e = Ieee.double.word s rung ∧ rung < 9218868437227405312 ∧ ∀ t, Ieee.double.read (Ieee.double.word t rung) = .number t (m * 2 ^ (52 - m.log2)) (e - (52 - m.log2 : Nat)) := by
  have e1 : Ieee.double.signWeight = 9223372036854775808 := by decide
  have e2 : Ieee.double.binade = 4503599627370496 := by decide
  have e3 : Ieee.double.infRung = 9218868437227405312 := by decide +kernel
  have e4 : Ieee.double.leastPlace = -1074 := by decide +kernel
  have e5 : Ieee.double.fractionBits = 52 := rfl
  have hl : m.log2 < 24 := (Nat.log2_lt hm0).2 hm
  have h1 := (Nat.log2_eq_iff hm0).1 (rfl : m.log2 = m.log2)
  have hp : m * 2 ^ (52 - m.log2) < 9007199254740992 ∧ 4503599627370496 ≤ m * 2 ^ (52 - m.log2) := by
    constructor
    · have := Nat.mul_lt_mul_of_pos_right h1.2 (Nat.two_pow_pos (52 - m.log2))
      rw [← Nat.pow_add, show m.log2 + 1 + (52 - m.log2) = 53 by omega] at this
      exact this
    · have := Nat.mul_le_mul_right (2 ^ (52 - m.log2)) h1.1
      rw [← Nat.pow_add, show m.log2 + (52 - m.log2) = 52 by omega] at this
      exact this
  have hlast : max (e + (m.log2 : Int) - ((52 : Nat) : Int)) (-1074) = e - (52 - m.log2 : Nat) := by omega
  have hsh : (e - (e - (52 - m.log2 : Nat))).toNat = 52 - m.log2 := by omega
  have hsh2 : ((e - (52 - m.log2 : Nat)) - e).toNat = 0 := by omega
  obtain ⟨d, hd⟩ : ∃ d : Nat, e - (52 - m.log2 : Nat) = (d : Int) - 1074 := ⟨((e - (52 - m.log2 : Nat)) + 1074).toNat, by omega⟩
  have hd1 : d ≤ 1149 := by omega
  rw [hd] at hlast hsh hsh2 ⊢
  have hnear : Ieee.double.nearest s m e = Ieee.double.word s (d * 4503599627370496 + m * 2 ^ (52 - m.log2)) := by
    unfold Ieee.Format.nearest
    rw [if_neg hm0]
    dsimp only
    rw [e2, e3, e4, e5, hlast, hsh, hsh2, cut_zero, Nat.shiftLeft_eq]
    have et : ((d : Int) - 1074 - -1074).toNat = d := by omega
    rw [et]
    congr 1
    generalize m * 2 ^ (52 - m.log2) = M at *
    exact Nat.min_eq_left (by omega)
  refine ⟨_, hnear, ?_, fun t => ?_⟩
  · generalize m * 2 ^ (52 - m.log2) = M at *
    omega
  · generalize m * 2 ^ (52 - m.log2) = M at *
    have hmod : Ieee.double.word t (d * 4503599627370496 + M) % Ieee.double.signWeight = d * 4503599627370496 + M := by
      unfold Ieee.Format.word
      rw [e1]
      split <;> omega
    have hsg : (Ieee.double.word t (d * 4503599627370496 + M) / Ieee.double.signWeight % 2 == 1) = t := by
      unfold Ieee.Format.word
      rw [e1]
      cases t
      · have : (d * 4503599627370496 + M) / 9223372036854775808 = 0 := by omega
        simp [this]
      · have : (9223372036854775808 + (d * 4503599627370496 + M)) / 9223372036854775808 = 1 := by omega
        simp [this]
    unfold Ieee.Format.read
    rw [hmod, hsg, e2, e3, e4]
    dsimp only
    rw [if_neg (by omega), if_pos (by omega)]
    congr 1
    · omega
    · omega
theorem wordF (f : Ieee.Format) (n : Nat) : f.word false n = n := rfl
/-- The wide number without its sign is made narrow. -/
theorem narrow_number (m : Nat) (e : Int) (hm0 : m ≠ 0) (hm : m < 16777216) (he : e ≤ 104) (he2 : -149 ≤ e) (hn : m < 8388608 → e = -149) :
    Ieee.single.nearest false (m * 2 ^ (52 - m.log2)) (e - (52 - m.log2 : Nat)) = (e + 149).toNat * 8388608 + m := by
  have e2 : Ieee.single.binade = 8388608 := by decide
  have e3 : Ieee.single.infRung = 2139095040 := by decide +kernel
  have e4 : Ieee.single.leastPlace = -149 := by decide +kernel
  have e5 : Ieee.single.fractionBits = 23 := rfl
  have hl : m.log2 < 24 := (Nat.log2_lt hm0).2 hm
  have hlg := log2_mul_pow m (52 - m.log2) hm0
  have h52 : m.log2 + (52 - m.log2) = 52 := by omega
  rw [h52] at hlg
  have hne : m * 2 ^ (52 - m.log2) ≠ 0 := by
    intro h
    rw [h] at hlg
    simp at hlg
  have h23 : 8388608 ≤ m → m.log2 = 23 := fun h => by
    have : 23 ≤ m.log2 := (Nat.le_log2 hm0).2 h
    omega
  have h22 : m < 8388608 → m.log2 < 23 := fun h => (Nat.log2_lt hm0).2 h
  have hlast : max (e - (52 - m.log2 : Nat) + ((52 : Nat) : Int) - ((23 : Nat) : Int)) (-149) = e := by
    by_cases h : m < 8388608
    · have := h22 h; have := hn h; omega
    · have := h23 (by omega); omega
  unfold Ieee.Format.nearest
  rw [if_neg hne]
  dsimp only
  rw [e2, e3, e4, e5, hlg, hlast]
  have hs1 : (e - (52 - m.log2 : Nat) - e).toNat = 0 := by omega
  have hs2 : (e - (e - (52 - m.log2 : Nat))).toNat = 52 - m.log2 := by omega
  rw [hs1, hs2, Nat.shiftLeft_zero, cut_whole _ _ _ (by rw [hlg]; omega)]
  have hr : (e - -149).toNat = (e + 149).toNat := by rw [Int.sub_neg]
  rw [hr]
  obtain ⟨d, hd⟩ : ∃ d : Nat, (e + 149).toNat = d := ⟨_, rfl⟩
  have hd1 : d ≤ 253 := by omega
  rw [hd, wordF]
  exact Nat.min_eq_left (by omega)
end Go.Proofs.Ythacadbdncfocaa
