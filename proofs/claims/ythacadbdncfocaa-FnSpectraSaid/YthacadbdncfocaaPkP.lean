/- Plain: a trace that is later is most alike its pilot at its own shift. -/
import Derived.Test.YthacadbdncfocaaFix
import Derived.Test.YthacadbdncfocaaInb
namespace Go.Proofs.Ythacadbdncfocaa
open Go

/-- A sum of products of two lists, one shifted against the other. -/
def corI (A B : List Int) (d : Int) : Nat → Int
  | 0 => 0
  | k + 1 => if inB ((k : Int) + d) 0 ((B.length : Int) - 1) then corI A B d k + A.getD k 0 * B.getD ((k : Int) + d).toNat 0 else corI A B d k
def padI (a : List Int) : List Int := a ++ [0, 0, 0, 0]
def latI (a : List Int) (by_ : Nat) : List Int := (List.range 10).map fun k => if by_ ≤ k then (padI a).getD (k - by_) 0 else 0
theorem sq_nn (x : Int) : 0 ≤ x * x := by
  rcases Int.le_total 0 x with h | h
  · exact Int.mul_nonneg h h
  · exact Int.mul_nonneg_of_nonpos_of_nonpos h h
theorem sq_two (x y : Int) : 0 ≤ x * x - 2 * (x * y) + y * y := by
  have h := sq_nn (x - y)
  have e : (x - y) * (x - y) = x * x - 2 * (x * y) + y * y := by
    rw [Int.sub_mul, Int.mul_sub, Int.mul_sub, Int.mul_comm y x]; omega
  rw [e] at h; exact h
theorem sq_zero {x : Int} (h : x * x ≤ 0) : x = 0 := by
  have h1 : x * x = 0 := by have := sq_nn x; omega
  rcases Int.mul_eq_zero.1 h1 with h | h <;> exact h
def enI (a b c d e f : Int) : Int := a * a + b * b + c * c + d * d + e * e + f * f
theorem shift1 (a b c d e f : Int) (h : 0 < enI a b c d e f) : a * b + b * c + c * d + d * e + e * f < enI a b c d e f := by
  unfold enI at *
  have q1 := sq_two a b; have q2 := sq_two b c; have q3 := sq_two c d; have q4 := sq_two d e; have q5 := sq_two e f
  have n1 := sq_nn a; have n6 := sq_nn f
  by_cases hc : a * b + b * c + c * d + d * e + e * f < a * a + b * b + c * c + d * d + e * e + f * f
  · exact hc
  · exfalso
    have ha : a = 0 := sq_zero (by omega)
    subst ha
    simp only [Int.zero_mul] at *
    have hb : b = 0 := sq_zero (by omega)
    subst hb
    simp only [Int.zero_mul, Int.mul_zero] at *
    have hb : c = 0 := sq_zero (by omega)
    subst hb
    simp only [Int.zero_mul, Int.mul_zero] at *
    have hb : d = 0 := sq_zero (by omega)
    subst hb
    simp only [Int.zero_mul, Int.mul_zero] at *
    have hb : e = 0 := sq_zero (by omega)
    subst hb
    simp only [Int.zero_mul, Int.mul_zero] at *
    omega
theorem shift2 (a b c d e f : Int) (h : 0 < enI a b c d e f) : a * c + b * d + c * e + d * f < enI a b c d e f := by
  unfold enI at *
  have q1 := sq_two a c; have q2 := sq_two b d; have q3 := sq_two c e; have q4 := sq_two d f
  have n1 := sq_nn a; have n2 := sq_nn b; have n5 := sq_nn e; have n6 := sq_nn f
  by_cases hc : a * c + b * d + c * e + d * f < a * a + b * b + c * c + d * d + e * e + f * f
  · exact hc
  · exfalso
    have ha : a = 0 := sq_zero (by omega)
    have hb : b = 0 := sq_zero (by omega)
    subst ha hb
    simp only [Int.zero_mul] at *
    have hb : c = 0 := sq_zero (by omega)
    have hd : d = 0 := sq_zero (by omega)
    subst hb hd
    simp only [Int.zero_mul, Int.mul_zero] at *
    omega
theorem shift3 (a b c d e f : Int) (h : 0 < enI a b c d e f) : a * d + b * e + c * f < enI a b c d e f := by
  unfold enI at *
  have q1 := sq_two a d; have q2 := sq_two b e; have q3 := sq_two c f
  have n1 := sq_nn a; have n2 := sq_nn b; have n3 := sq_nn c; have n4 := sq_nn d; have n5 := sq_nn e; have n6 := sq_nn f
  omega
theorem shift4 (a b c d e f : Int) (h : 0 < enI a b c d e f) : a * e + b * f < enI a b c d e f := by
  unfold enI at *
  have q1 := sq_two a e; have q2 := sq_two b f
  have n1 := sq_nn a; have n2 := sq_nn b; have n3 := sq_nn c; have n4 := sq_nn d; have n5 := sq_nn e; have n6 := sq_nn f
  omega
theorem shift5 (a b c d e f : Int) (h : 0 < enI a b c d e f) : a * f < enI a b c d e f := by
  unfold enI at *
  have q1 := sq_two a f
  have n1 := sq_nn a; have n2 := sq_nn b; have n3 := sq_nn c; have n4 := sq_nn d; have n5 := sq_nn e; have n6 := sq_nn f
  omega
theorem en_nn (a b c d e f : Int) : 0 ≤ enI a b c d e f := by
  unfold enI
  have n1 := sq_nn a; have n2 := sq_nn b; have n3 := sq_nn c; have n4 := sq_nn d; have n5 := sq_nn e; have n6 := sq_nn f
  omega
theorem cor_at (a b c d e f : Int) (t i : Nat) (ht : t < 5) (hi : i < 13) :
    corI (padI [a, b, c, d, e, f]) (latI [a, b, c, d, e, f] t) ((i : Int) - 6) 10 = (if i = t + 6 then enI a b c d e f else if i = t + 7 ∨ i + 1 = t + 6 then a * b + b * c + c * d + d * e + e * f else
      if i = t + 8 ∨ i + 2 = t + 6 then a * c + b * d + c * e + d * f else if i = t + 9 ∨ i + 3 = t + 6 then a * d + b * e + c * f else if i = t + 10 ∨ i + 4 = t + 6 then a * e + b * f else
      if i = t + 11 ∨ i + 5 = t + 6 then a * f else 0) := by
  have ht' : t = 0 ∨ t = 1 ∨ t = 2 ∨ t = 3 ∨ t = 4 := by omega
  have hi' : i = 0 ∨ i = 1 ∨ i = 2 ∨ i = 3 ∨ i = 4 ∨ i = 5 ∨ i = 6 ∨ i = 7 ∨ i = 8 ∨ i = 9 ∨ i = 10 ∨ i = 11 ∨ i = 12 := by omega
  rcases ht' with rfl | rfl | rfl | rfl | rfl <;> rcases hi' with rfl | rfl | rfl | rfl | rfl | rfl | rfl | rfl | rfl | rfl | rfl | rfl | rfl <;>
    simp [corI, padI, latI, inB, enI, List.range, List.range.loop, Int.mul_comm] <;> omega
/-- The index of the greatest number, the first one of several. -/
def bestF (L : List Nat) : Nat → Option Nat
  | 0 => none
  | j + 1 => match bestF L j with
    | none => if FloatKind.f32.format.order (L.getD j 0) (L.getD j 0) == some Ordering.eq then some j else none
    | some o => if FloatKind.f32.format.order (L.getD j 0) (L.getD o 0) == some Ordering.gt then some j else some o
theorem bestF_is (L : List Nat) (k : Nat) (v : Nat → Int) (n : Nat) (h : ∀ i, i < n → Fx k (L.getD i 0) (v i)) (j : Nat) (hj : j < n) :
    ∃ o, bestF L (j + 1) = some o ∧ o ≤ j ∧ (∀ i, i ≤ j → v i ≤ v o) ∧ ∀ i, i < o → v i < v o := by
  induction j with
  | zero =>
    refine ⟨0, ?_, Nat.le_refl _, fun i hi => ?_, fun i hi => by omega⟩
    · have e : FloatKind.f32.format.order (L.getD 0 0) (L.getD 0 0) = some (compare (v 0) (v 0)) := Fx.order (h 0 hj) (h 0 hj)
      rw [bestF, bestF, e]
      simp
    · obtain rfl : i = 0 := by omega
      exact Int.le_refl _
  | succ j ih =>
    obtain ⟨o, h1, h2, h3, h4⟩ := ih (by omega)
    have e : FloatKind.f32.format.order (L.getD (j + 1) 0) (L.getD o 0) = some (compare (v (j + 1)) (v o)) := Fx.order (h (j + 1) hj) (h o (by omega))
    rw [bestF, h1]
    simp only [e]
    by_cases hc : v o < v (j + 1)
    · rw [Int.compare_eq_gt.2 hc]
      refine ⟨j + 1, rfl, Nat.le_refl _, fun i hi => ?_, fun i hi => ?_⟩
      · by_cases h5 : i ≤ j
        · have := h3 i h5; omega
        · obtain rfl : i = j + 1 := by omega
          exact Int.le_refl _
      · have := h3 i (by omega); omega
    · refine ⟨o, ?_, by omega, fun i hi => ?_, h4⟩
      · rcases Int.lt_or_eq_of_le (Int.not_lt.1 hc) with h5 | h5
        · rw [Int.compare_eq_lt.2 h5]; rfl
        · rw [h5]; simp
      · by_cases h5 : i ≤ j
        · exact h3 i h5
        · obtain rfl : i = j + 1 := by omega
          omega
/-- The sums of products, as the program makes them. -/
def corS (A B : List Nat) (d : Int) : Nat → Nat
  | 0 => 0
  | k + 1 => if inB ((k : Int) + d) 0 ((B.length : Int) - 1) then fop .add .f32 (corS A B d k) (fop .mul .f32 (A.getD k 0) (B.getD ((k : Int) + d).toNat 0)) else corS A B d k
theorem corS_fx (A B : List Nat) (a b : List Int) (d : Int) (hb : B.length = b.length) (hA : ∀ k, Fx 2 (A.getD k 0) (a.getD k 0) ∧ -8 ≤ a.getD k 0 ∧ a.getD k 0 ≤ 8) (hB : ∀ k, Fx 2 (B.getD k 0) (b.getD k 0) ∧ -8 ≤ b.getD k 0 ∧ b.getD k 0 ≤ 8) (n : Nat) (hn : n ≤ 1000) :
    Fx 4 (corS A B d n) (corI a b d n) ∧ -(64 * (n : Int)) ≤ corI a b d n ∧ corI a b d n ≤ 64 * (n : Int) := by
  induction n with
  | zero => exact ⟨Fx.zero 4, by unfold corI; omega, by unfold corI; omega⟩
  | succ n ih =>
    obtain ⟨i1, i2, i3⟩ := ih (by omega)
    rw [corS, corI, hb]
    cases inB ((n : Int) + d) 0 ((b.length : Int) - 1) with
    | false =>
      simp only [Bool.false_eq_true, if_false]
      exact ⟨i1, by omega, by omega⟩
    | true =>
      simp only [if_true]
      obtain ⟨f1, l1, u1⟩ := hA n
      obtain ⟨f2, l2, u2⟩ := hB ((n : Int) + d).toNat
      generalize a.getD n 0 = x at *
      generalize b.getD ((n : Int) + d).toNat 0 = y at *
      have hxy : -64 ≤ x * y ∧ x * y ≤ 64 := by
        have h1 : (x * y).natAbs ≤ 64 := by
          rw [Int.natAbs_mul]
          exact Nat.le_trans (Nat.mul_le_mul (show x.natAbs ≤ 8 by omega) (show y.natAbs ≤ 8 by omega)) (by decide)
        omega
      have m1 : Fx 4 _ (x * y) := Fx.fopMul f1 f2 (by decide) (by omega)
      exact ⟨Fx.fopAdd i1 m1 (by decide) (by omega), by omega, by omega⟩
end Go.Proofs.Ythacadbdncfocaa
