/- The angle of a point: what the program reckons in 64 bits, and that it is bounded. -/
import Derived.Test.YtlpmkgcknopgoaaGreatDoorQw
namespace Go.Proofs.YtlpmkgcknopgoaaGreatDoor
open Go Ieee

def oneB : Nat := 4607182418800017408
theorem oneB_rq : RQ .f64 oneB 1 := ⟨false, 4503599627370496, -52, by decide +kernel, by decide +kernel⟩
def agT (a b : Nat) : Nat := if gtB a b then fop .quo .f64 b a else fop .quo .f64 a b
def agM (t : Nat) : Nat := fop .mul .f64 t t
def agS (t : Nat) : Nat := fop .add .f64 oneB (agM t)
def agR (t : Nat) : Nat := sqr (agS t)
def agD (t : Nat) : Nat := fop .add .f64 oneB (agR t)
def agN (t : Nat) : Nat := fop .quo .f64 t (agD t)
def agI (t : Nat) : Nat → Nat
  | 0 => t
  | j + 1 => agN (agI t j)
def agQ (j : Nat) : Nat := fop .quo .f64 oneB (floatOfInt .f64 (15 - 2 * (j : Int)))
def agP (u : Nat) : Nat → Nat
  | 0 => 0
  | j + 1 => fop .sub .f64 (agQ j) (fop .mul .f64 u (agP u j))
/-- What is asked of one step. -/
structure AgOk (t : Nat) : Prop where
  m : isN .f64 (agM t) = false
  s : isN .f64 (agS t) = false
  r : (FloatKind.f64.format.sqrt (agS t)).isSome = true
  d : isN .f64 (agD t) = false
  n : isN .f64 (agN t) = false
theorem sq_nonneg (a : Rat) : 0 ≤ a * a := by
  by_cases h : 0 ≤ a
  · exact Rat.mul_nonneg h h
  · have := Rat.mul_nonneg (show 0 ≤ -a by grind) (show 0 ≤ -a by grind)
    grind
theorem ag_step {t : Nat} {A : Rat} (h : FD t A) (hA : A ≤ 1000) : AgOk t ∧ FD (agN t) (3 * A + 1) := by
  have h1 := uu64
  have h2 := tt64
  obtain ⟨q, hq, hb⟩ := h
  have hA0 := hb.nn
  have hAA : A * A ≤ 1000000 := by
    have a1 := Rat.mul_le_mul_of_nonneg_left hA hA0
    grind
  obtain ⟨d1, r1, e1⟩ := hq.mul hq (hb.mul hb) (big_top64 (by grind))
  have hqq := sq_nonneg q
  have hbb := hb.mul hb
  have e1' : Ab d1 (1 / 1000000000) := e1.mono (by rw [h1]; grind)
  have hs0 : Ab (1 + (q * q + d1)) 1000002 := by unfold Ab at *; grind
  obtain ⟨d2, r2, e2⟩ := oneB_rq.add r1 hs0 (big_top64 (by grind))
  have e2' : Ab d2 (1 / 1000000) := e2.mono (by rw [h1]; grind)
  have hlow : 1 / 2 ≤ 1 + (q * q + d1) + d2 := by unfold Ab at *; grind
  have hup : 1 + (q * q + d1) + d2 ≤ 1000003 := by unfold Ab at *; grind
  obtain ⟨y, r3, hs, hy0, hy⟩ := r2.sqrt (by grind) (by have : (1000003 : Rat) < sc 1000 := by decide +kernel
                                                        grind)
  have hyu : Ab (y * y - (1 + (q * q + d1) + d2)) 1 := hy.mono (by
    rw [h1]
    have := Rat.mul_le_mul_of_nonneg_right hup (show (0 : Rat) ≤ 8 * (1 / 9007199254740992) by decide +kernel)
    grind)
  have hy2 : y ≤ 2000 := sq_le (by grind) (by unfold Ab at hyu; grind)
  have hs4 : Ab (1 + y) 2001 := by unfold Ab; grind
  obtain ⟨d4, r4, e4⟩ := oneB_rq.add r3 hs4 (big_top64 (by grind))
  have e4' : Ab d4 (1 / 1000000) := e4.mono (by rw [h1]; grind)
  have hden : 1 / 2 ≤ 1 + y + d4 := by unfold Ab at e4'; grind
  have hN : FD (agN t) (2 * A + (2 * A + 1) * (1 / 1000000)) := FD.quo ⟨q, hq, hb⟩ r4 hden (by grind)
  exact ⟨⟨r1.notNan, r2.notNan, hs, r4.notNan, hN.notNan⟩, hN.mono (by grind)⟩
theorem gtB_rq {a b : Nat} {x y : Rat} (ha : RQ .f64 a x) (hb : RQ .f64 b y) : gtB a b = decide (y < x) := by
  unfold gtB
  rw [ha.order hb]
  by_cases h1 : x < y
  · rw [if_pos h1, decide_eq_false (by grind)]; rfl
  · rw [if_neg h1]
    by_cases h2 : x = y
    · rw [if_pos h2, decide_eq_false (by grind)]; rfl
    · rw [if_neg h2, decide_eq_true (by grind)]; rfl
theorem quo_one {x y : Nat} {a b : Rat} (hx : RQ .f64 x a) (hy : RQ .f64 y b) (ha : 0 ≤ a) (hb : 0 < b) (h : a ≤ b) : FD (fop .quo .f64 x y) 2 := by
  have h1 := uu64
  have h2 := tt64
  have hb0 : b ≠ 0 := by grind
  obtain ⟨q, hq⟩ : ∃ q : Rat, a / b = q := ⟨_, rfl⟩
  have hqb : q * b = a := by rw [← hq]; exact Rat.div_mul_cancel hb0
  have hq0 : 0 ≤ q := by
    by_cases hc : 0 ≤ q
    · exact hc
    · have : q * b < 0 * b := Rat.mul_lt_mul_of_pos_right (Rat.not_le.1 hc) hb
      grind
  have hq1 : q ≤ 1 := by
    by_cases hc : q ≤ 1
    · exact hc
    · have : 1 * b < q * b := Rat.mul_lt_mul_of_pos_right (Rat.not_le.1 hc) hb
      grind
  obtain ⟨d, r, hd⟩ := hx.quo hy hb0 hqb (B := 1) (by unfold Ab; grind) (big_top64 (by grind))
  rw [h1] at hd
  have hd2 : Ab d (1 / 1000) := hd.mono (by grind)
  exact ⟨_, r, by unfold Ab at *; grind⟩
theorem agT_fd {a b : Nat} {x y : Rat} (ha : RQ .f64 a x) (hb : RQ .f64 b y) (hx : 0 ≤ x) (hy : 0 ≤ y) (h0 : ¬ (x = 0 ∧ y = 0)) : FD (agT a b) 2 := by
  unfold agT
  rw [gtB_rq ha hb]
  by_cases h : y < x
  · rw [decide_eq_true h, if_pos rfl]
    exact quo_one hb ha hy (by grind) (by grind)
  · rw [decide_eq_false h]
    exact quo_one ha hb hx (by grind) (by grind)
theorem agI_fd {t : Nat} (h : FD t 2) : FD (agI t 0) 2 ∧ FD (agI t 1) 7 ∧ FD (agI t 2) 22 ∧ FD (agI t 3) 67 ∧ AgOk (agI t 0) ∧ AgOk (agI t 1) ∧ AgOk (agI t 2) := by
  obtain ⟨o0, f1⟩ := ag_step h (by grind)
  have f1' : FD (agI t 1) 7 := f1.mono (by grind)
  obtain ⟨o1, f2⟩ := ag_step f1' (by grind)
  have f2' : FD (agI t 2) 22 := f2.mono (by grind)
  obtain ⟨o2, f3⟩ := ag_step f2' (by grind)
  exact ⟨h, f1', f2', f3.mono (by grind), o0, o1, o2⟩
theorem agQ_fd (j : Nat) (hj : j < 8) : FD (agQ j) 3 := by
  have hfr : 2 ^ (fracB .f64 + 1) = 9007199254740992 := by decide
  have r := RQ.ofInt .f64 (15 - 2 * (j : Int)) (by rw [hfr]; omega)
  have h1 : (1 : Rat) ≤ ((15 - 2 * (j : Int) : Int) : Rat) := by
    have := Rat.intCast_le_intCast.2 (show (1 : Int) ≤ 15 - 2 * (j : Int) by omega)
    exact this
  have h2 : FD oneB 1 := ⟨1, oneB_rq, by unfold Ab; grind⟩
  exact (h2.quo r (by grind) (by grind)).mono (by grind)
/-- Bounds of the polynomial. -/
def agB : Nat → Rat
  | 0 => 0
  | j + 1 => 5000 * agB j + 10
theorem agP_fd {u : Nat} (h : FD u 4500) (j : Nat) (hj : j ≤ 8) : FD (agP u j) (agB j) ∧ (j < 8 → isN .f64 (fop .mul .f64 u (agP u j)) = false) := by
  have hB : ∀ j, j ≤ 8 → 0 ≤ agB j ∧ agB j ≤ 1000000000000000000000000000 := fun j hj => by
    have hc : j = 0 ∨ j = 1 ∨ j = 2 ∨ j = 3 ∨ j = 4 ∨ j = 5 ∨ j = 6 ∨ j = 7 ∨ j = 8 := by omega
    rcases hc with rfl | rfl | rfl | rfl | rfl | rfl | rfl | rfl | rfl <;> decide +kernel
  induction j with
  | zero =>
    have z : FD 0 0 := ⟨0, ⟨false, 0, -1074, by decide +kernel, by decide +kernel⟩, by unfold Ab; grind⟩
    exact ⟨z, fun _ => (h.mul z (by grind)).notNan⟩
  | succ j ih =>
    obtain ⟨h1, -⟩ := ih (by omega)
    obtain ⟨b0, b1⟩ := hB j (by omega)
    obtain ⟨c0, c1⟩ := hB (j + 1) hj
    have hm := h.mul h1 (by grind)
    have hm2 : FD (fop .mul .f64 u (agP u j)) (4600 * agB j + 1) := hm.mono (by grind)
    have hs := (agQ_fd j (by omega)).sub hm2 (by grind)
    have hs2 : FD (agP u (j + 1)) (agB (j + 1)) := hs.mono (by show _ ≤ 5000 * agB j + 10; grind)
    refine ⟨hs2, fun h8 => ?_⟩
    have hc : agB (j + 1) ≤ 1000000000000000000000000000 := by
      have hcc : j = 0 ∨ j = 1 ∨ j = 2 ∨ j = 3 ∨ j = 4 ∨ j = 5 ∨ j = 6 := by omega
      rcases hcc with rfl | rfl | rfl | rfl | rfl | rfl | rfl <;> decide +kernel
    exact (h.mul hs2 (by grind)).notNan
def agX (t : Nat) : Nat := fop .mul .f64 t (agP (agM t) 8)
def agY (t : Nat) : Nat := fop .mul .f64 4620693217682128896 (agX t)
def agZ (t : Nat) : Nat := fop .quo .f64 (agY t) 4618760256179416344
def agQ1 (b : Bool) (z : Nat) : Nat := if b then fop .sub .f64 4598175219545276416 z else z
def agQ2 (b : Bool) (z : Nat) : Nat := if b then fop .sub .f64 4602678819172646912 z else z
def agQ3 (b : Bool) (z : Nat) : Nat := if b then ngF .f64 z else z
/-- The end of the reckoning. -/
structure AgEnd (t : Nat) (b1 b2 b3 : Bool) : Prop where
  u : isN .f64 (agM t) = false
  p : ∀ j, j < 8 → isN .f64 (agQ j) = false ∧ isN .f64 (fop .mul .f64 (agM t) (agP (agM t) j)) = false ∧ isN .f64 (agP (agM t) (j + 1)) = false
  x : isN .f64 (agX t) = false
  y : isN .f64 (agY t) = false
  z : isN .f64 (agZ t) = false
  q1 : isN .f64 (agQ1 b1 (agZ t)) = false
  q2 : isN .f64 (agQ2 b2 (agQ1 b1 (agZ t))) = false
  nw : nrwOk (agQ3 b3 (agQ2 b2 (agQ1 b1 (agZ t)))) = true
theorem eight_rq : RQ .f64 4620693217682128896 8 := ⟨false, 4503599627370496, -49, by decide +kernel, by decide +kernel⟩
theorem turn_rq : RQ .f64 4618760256179416344 (sgr false * (((7074237752028440 : Nat) : Rat) * sc (-50))) := ⟨false, 7074237752028440, -50, by decide +kernel, rfl⟩
theorem quart_rq : RQ .f64 4598175219545276416 (1 / 4) := ⟨false, 4503599627370496, -54, by decide +kernel, by decide +kernel⟩
theorem half_rq : RQ .f64 4602678819172646912 (1 / 2) := ⟨false, 4503599627370496, -53, by decide +kernel, by decide +kernel⟩
theorem ag_end {t : Nat} (h : FD t 67) (b1 b2 b3 : Bool) : AgEnd t b1 b2 b3 := by
  have hu : FD (agM t) 4500 := (h.mul h (by grind)).mono (by grind)
  have h8 := (agP_fd hu 8 (Nat.le_refl _)).1
  have hb8 : agB 8 ≤ 1000000000000000000000000000 := by decide +kernel
  have h8' : FD (agP (agM t) 8) 1000000000000000000000000000 := h8.mono hb8
  have hx : FD (agX t) 70000000000000000000000000000 := (h.mul h8' (by grind)).mono (by grind)
  have e8 : FD 4620693217682128896 8 := ⟨8, eight_rq, by unfold Ab; grind⟩
  have hy : FD (agY t) 600000000000000000000000000000 := (e8.mul hx (by grind)).mono (by grind)
  have hz : FD (agZ t) 1300000000000000000000000000000 := (hy.quo turn_rq (by decide +kernel) (by grind)).mono (by grind)
  have hq : FD 4598175219545276416 1 := ⟨_, quart_rq, by unfold Ab; grind⟩
  have hh : FD 4602678819172646912 1 := ⟨_, half_rq, by unfold Ab; grind⟩
  have h1 : FD (agQ1 b1 (agZ t)) 1500000000000000000000000000000 := by
    unfold agQ1
    cases b1
    · exact hz.mono (by grind)
    · exact (hq.sub hz (by grind)).mono (by grind)
  have h2 : FD (agQ2 b2 (agQ1 b1 (agZ t))) 2000000000000000000000000000000 := by
    unfold agQ2
    cases b2
    · exact h1.mono (by grind)
    · exact (hh.sub h1 (by grind)).mono (by grind)
  refine ⟨hu.notNan, fun j hj => ⟨(agQ_fd j hj).notNan, (agP_fd hu j (by omega)).2 hj, (agP_fd hu (j + 1) (by omega)).1.notNan⟩, hx.notNan, hy.notNan, hz.notNan, h1.notNan, h2.notNan, ?_⟩
  obtain ⟨q, r, hB⟩ := h2
  have hw : agQ2 b2 (agQ1 b1 (agZ t)) < 2 ^ FloatKind.f64.format.width := by
    unfold agQ2 agQ1
    cases b2 <;> cases b1 <;> simp only [if_true, Bool.false_eq_true, if_false] <;> exact (fop_cls (k := .f64)).1
  have hs : (2000000000000000000000000000000 : Rat) < sc 127 := by decide +kernel
  unfold agQ3
  cases b3
  · obtain ⟨d, -, -, h⟩ := r.narrow hB hs
    exact h
  · obtain ⟨d, -, -, h⟩ := (r.neg hw).narrow (B := 2000000000000000000000000000000) (by unfold Ab at *; grind) hs
    exact h
end Go.Proofs.YtlpmkgcknopgoaaGreatDoor
