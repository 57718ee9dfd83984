/- Plain: smooth and rough parts, differences and sums, in fixed points; the greatest size. -/
import Derived.Test.YthacadbdncfocaaFiF
namespace Go.Proofs.Ythacadbdncfocaa
open Go Go.RowKit Ieee

/-- The number is n units of 2 to the -k. -/
def UQ (k r : Nat) (n : Int) : Prop := RQ .f32 r ((n : Rat) * sc (-(k : Int)))
theorem rep_u (k : Nat) (hk : k ≤ 140) (n : Int) (h : n.natAbs < 16777216) : Rep .f32 ((n : Rat) * sc (-(k : Int))) (-(k : Int)) :=
  ⟨n, rfl, h, by show (-149 : Int) ≤ _; omega, by show _ ≤ (127 : Int) - 23 - 1; omega⟩
theorem UQ.add {k x y : Nat} {a b : Int} (hx : UQ k x a) (hy : UQ k y b) (hk : k ≤ 140) (h : (a + b).natAbs < 16777216) : UQ k (fop .add .f32 x y) (a + b) := by
  have e : (a : Rat) * sc (-(k : Int)) + (b : Rat) * sc (-(k : Int)) = ((a + b : Int) : Rat) * sc (-(k : Int)) := by rw [Rat.intCast_add]; grind
  have := RQ.add_rep hx hy (g := -(k : Int)) (by rw [e]; exact rep_u k hk _ h)
  rw [e] at this
  exact this
theorem UQ.sub {k x y : Nat} {a b : Int} (hx : UQ k x a) (hy : UQ k y b) (hk : k ≤ 140) (h : (a - b).natAbs < 16777216) : UQ k (fop .sub .f32 x y) (a - b) := by
  have e : (a : Rat) * sc (-(k : Int)) - (b : Rat) * sc (-(k : Int)) = ((a - b : Int) : Rat) * sc (-(k : Int)) := by rw [Rat.intCast_sub]; grind
  have := RQ.sub_rep hx hy (g := -(k : Int)) (by rw [e]; exact rep_u k hk _ h)
  rw [e] at this
  exact this
theorem quarter_rq : RQ .f32 1048576000 (sc (-2)) := ⟨false, 8388608, -25, by decide +kernel, by decide +kernel⟩
theorem UQ.quarter {k x : Nat} {a : Int} (hx : UQ k x a) (hk : k ≤ 130) (h : a.natAbs < 16777216) : UQ (k + 2) (fop .mul .f32 1048576000 x) a := by
  have e : sc (-2) * ((a : Rat) * sc (-(k : Int))) = (a : Rat) * sc (-((k + 2 : Nat) : Int)) := by
    rw [show (-((k + 2 : Nat) : Int)) = -2 + -(k : Int) by omega, sc_add]
    grind
  have := RQ.mul_rep quarter_rq hx (g := -((k + 2 : Nat) : Int)) (by rw [e]; exact rep_u (k + 2) (by omega) a h)
  rw [e] at this
  exact this
theorem UQ.zero (k : Nat) : UQ k 0 0 := ⟨false, 0, -149, by decide +kernel, by unfold sgr; simp⟩
theorem UQ.fine {k x : Nat} {a : Int} (l : Nat) (h : UQ k x a) : UQ (k + l) x (a * (2 ^ l : Nat)) := by
  unfold UQ at *
  have e : ((a * ((2 ^ l : Nat) : Int) : Int) : Rat) * sc (-((k + l : Nat) : Int)) = (a : Rat) * sc (-(k : Int)) := by
    rw [Rat.intCast_mul, Rat.intCast_natCast, ← sc_nat, show (-((k + l : Nat) : Int)) = -(l : Int) + -(k : Int) by omega, sc_add]
    have := sc_cancel (l : Int)
    grind
  rw [e]
  exact h
theorem UQ.qv {z : Int} (h : -8 ≤ z ∧ z ≤ 8) : UQ 2 (qv z) z := (qv_fx z h.1 h.2).1.rq (by decide)
theorem UQ.nn {k x : Nat} {a : Int} (h : UQ k x a) : isN .f32 x = false := RQ.notNan h

/-- A list of numbers in units. -/
def UL (k : Nat) (L : List Nat) (Z : Nat → Int) (n : Nat) : Prop := L.length = n ∧ ∀ i, i < n → UQ k (L.getD i 0) (Z i)
/-- A number at a place, or 0. -/
def atZ (Z : Nat → Int) (n : Nat) (t : Int) : Int := if 0 ≤ t ∧ t ≤ (n : Int) - 1 then Z t.toNat else 0
def smZ (Z : Nat → Int) (n k : Nat) : Int := atZ Z n ((k : Int) - 1) + Z k + Z k + atZ Z n ((k : Int) + 1)
def smZR (Z : Nat → Int) (n : Nat) : Nat → Nat → Int
  | 0 => Z
  | r + 1 => smZ (smZR Z n r) n
theorem atV_uq {k : Nat} {L : List Nat} {Z : Nat → Int} {n : Nat} (h : UL k L Z n) (t : Int) : UQ k (atV L t) (atZ Z n t) := by
  unfold atV atZ inB
  rw [h.1]
  by_cases ht : 0 ≤ t ∧ t ≤ (n : Int) - 1
  · rw [if_pos ht, if_pos (by simp; omega)]
    exact h.2 _ (by omega)
  · rw [if_neg ht, if_neg (by simp; omega)]
    exact UQ.zero k
theorem atZ_bd {Z : Nat → Int} {n : Nat} {B : Int} (hB : 0 ≤ B) (h : ∀ i, i < n → -B ≤ Z i ∧ Z i ≤ B) (t : Int) : -B ≤ atZ Z n t ∧ atZ Z n t ≤ B := by
  unfold atZ
  split
  · exact h _ (by omega)
  · omega
theorem smZ_bd {Z : Nat → Int} {n : Nat} {B : Int} (hB : 0 ≤ B) (h : ∀ i, i < n → -B ≤ Z i ∧ Z i ≤ B) (i : Nat) (hi : i < n) : -(4 * B) ≤ smZ Z n i ∧ smZ Z n i ≤ 4 * B := by
  have h1 := atZ_bd hB h ((i : Int) - 1)
  have h2 := atZ_bd hB h ((i : Int) + 1)
  have h3 := h i hi
  unfold smZ
  omega
theorem smL_uq {k : Nat} {L : List Nat} {Z : Nat → Int} {n : Nat} (h : UL k L Z n) (hk : k ≤ 100) (B : Int) (hB : 0 ≤ B) (hB2 : B ≤ 4000000) (hb : ∀ i, i < n → -B ≤ Z i ∧ Z i ≤ B) : UL (k + 2) (smL L) (smZ Z n) n := by
  refine ⟨by rw [smL_length, h.1], fun i hi => ?_⟩
  rw [smL, tab_getD _ _ _ (by rw [h.1]; exact hi)]
  have h1 := atZ_bd hB hb ((i : Int) - 1)
  have h2 := atZ_bd hB hb ((i : Int) + 1)
  have h3 := hb i hi
  have a1 := (atV_uq h ((i : Int) - 1)).add (h.2 i hi) (by omega) (by omega)
  have a2 := a1.add (h.2 i hi) (by omega) (by omega)
  have a3 := a2.add (atV_uq h ((i : Int) + 1)) (by omega) (by omega)
  exact a3.quarter (by omega) (by omega)
theorem pow4 (r : Nat) : ((4 ^ (r + 1) : Nat) : Int) = 4 * ((4 ^ r : Nat) : Int) := by rw [Nat.pow_succ]; omega
theorem smR_uq {L : List Nat} {Z : Nat → Int} {n : Nat} (h : UL 2 L Z n) (B : Int) (hB : 0 ≤ B) (hB8 : B ≤ 8) (hb : ∀ i, i < n → -B ≤ Z i ∧ Z i ≤ B) (r : Nat) (hr : r ≤ 8) :
    UL (2 + 2 * r) (smR L r) (smZR Z n r) n ∧ ∀ i, i < n → -(((4 ^ r : Nat) : Int) * B) ≤ smZR Z n r i ∧ smZR Z n r i ≤ ((4 ^ r : Nat) : Int) * B := by
  induction r with
  | zero =>
    refine ⟨h, fun i hi => ?_⟩
    have e : ((4 ^ 0 : Nat) : Int) * B = B := by rw [Nat.pow_zero]; omega
    rw [e]
    exact hb i hi
  | succ r ih =>
    obtain ⟨h1, h2⟩ := ih (by omega)
    have hp : ((4 ^ r : Nat) : Int) ≤ 65536 := by
      have : 4 ^ r ≤ 4 ^ 8 := Nat.pow_le_pow_right (by decide) (by omega)
      have e : (4 : Nat) ^ 8 = 65536 := by decide
      omega
    have hp0 : (0 : Int) ≤ ((4 ^ r : Nat) : Int) := Int.natCast_nonneg _
    have hpB : ((4 ^ r : Nat) : Int) * B ≤ 65536 * 8 := Int.mul_le_mul hp hB8 hB (by decide)
    have hpB0 : 0 ≤ ((4 ^ r : Nat) : Int) * B := Int.mul_nonneg hp0 hB
    have h3 := smL_uq h1 (by omega) (((4 ^ r : Nat) : Int) * B) hpB0 (by omega) h2
    refine ⟨by rw [show 2 + 2 * (r + 1) = 2 + 2 * r + 2 by omega]; exact h3, fun i hi => ?_⟩
    have h4 := smZ_bd hpB0 h2 i hi
    rw [pow4]
    have e : 4 * ((4 ^ r : Nat) : Int) * B = 4 * (((4 ^ r : Nat) : Int) * B) := by grind
    rw [e]
    exact h4
/-- Two numbers of one value. -/
theorem c001_rq : RQ .f64 4562254508917369340 (sgr false * (((4611686018427388 : Nat) : Rat) * sc (-62))) := ⟨false, 4611686018427388, -62, by decide +kernel, rfl⟩
theorem nearB_eq {x y : Nat} {q : Rat} (hx : RQ .f32 x q) (hy : RQ .f32 y q) : NearB x y 4562254508917369340 := by
  have wx := hx.wide
  have wy := hy.wide
  have hlt : ltB (cwide x) (cwide y) = false := by
    unfold ltB
    rw [wx.order wy, if_neg (by grind), if_pos rfl]
    rfl
  have e : gpF (cwide x) (cwide y) = fop .sub .f64 (cwide x) (cwide y) := by unfold gpF; rw [hlt]; rfl
  have hz : q - q = ((0 : Int) : Rat) * sc 0 := by grind
  have r := wx.sub_rep wy (g := 0) ⟨0, hz, by decide, by decide, by decide⟩
  refine ⟨hx.notNan, hy.notNan, by rw [e]; exact r.notNan, ?_⟩
  rw [e]
  unfold leB ltB
  have h0 : (q - q) < sgr false * (((4611686018427388 : Nat) : Rat) * sc (-62)) := by
    have : (0 : Rat) < sgr false * (((4611686018427388 : Nat) : Rat) * sc (-62)) := by decide +kernel
    grind
  rw [r.order c001_rq, if_pos h0]
  rfl
/-- Sums of differences. -/
def dzF (Z : Nat → Int) (i : Nat) : Int := if i = 0 then Z 0 else Z i - Z (i - 1)
theorem dzF_zero (Z : Nat → Int) : dzF Z 0 = Z 0 := rfl
theorem dzF_succ (Z : Nat → Int) (i : Nat) : dzF Z (i + 1) = Z (i + 1) - Z i := rfl
theorem dfL_uq {A : List Nat} {Z : Nat → Int} {n : Nat} (h : UL 2 A Z n) (hb : ∀ i, i < n → -8 ≤ Z i ∧ Z i ≤ 8) : UL 2 (dfL A) (dzF Z) n := by
  refine ⟨by rw [dfL, tab_length, h.1], fun i hi => ?_⟩
  rw [dfL, tab_getD _ _ _ (by rw [h.1]; exact hi)]
  unfold dfF
  match i, hi with
  | 0, hi =>
    rw [if_pos rfl, dzF_zero]
    exact h.2 0 hi
  | i + 1, hi =>
    rw [if_neg (by omega), dzF_succ]
    have h1 := hb (i + 1) hi
    have h2 := hb i (by omega)
    exact (h.2 (i + 1) hi).sub (h.2 i (by omega)) (by decide) (by omega)
theorem igF_uq {A : List Nat} {Z : Nat → Int} {n : Nat} (h : UL 2 A Z n) (hb : ∀ i, i < n → -8 ≤ Z i ∧ Z i ≤ 8) (k : Nat) (hk : k < n) : UQ 2 (igF (dfL A) (k + 1)) (Z k) := by
  have hd := dfL_uq h hb
  induction k with
  | zero =>
    have hh := hd.2 0 hk
    rw [dzF_zero] at hh
    have := (UQ.zero 2).add hh (by decide) (by have := hb 0 hk; omega)
    rw [Int.zero_add] at this
    exact this
  | succ k ih =>
    have i1 := ih (by omega)
    have h1 := hb (k + 1) hk
    have h2 := hb k (by omega)
    have hh := hd.2 (k + 1) hk
    rw [dzF_succ] at hh
    have e : Z k + (Z (k + 1) - Z k) = Z (k + 1) := by omega
    have := i1.add hh (by decide) (by rw [e]; omega)
    rw [e] at this
    exact this
/-- The greatest size of a list in units. -/
def mzF (Z : Nat → Int) : Nat → Int
  | 0 => 0
  | k + 1 => max (max (mzF Z k) (Z k)) (-(Z k))
theorem mzF_ge (Z : Nat → Int) (n : Nat) : ∀ i, i < n → -(mzF Z n) ≤ Z i ∧ Z i ≤ mzF Z n := by
  induction n with
  | zero => intro i hi; omega
  | succ n ih =>
    intro i hi
    show -(max (max (mzF Z n) (Z n)) (-(Z n))) ≤ Z i ∧ Z i ≤ max (max (mzF Z n) (Z n)) (-(Z n))
    by_cases h : i < n
    · have := ih i h
      omega
    · obtain rfl : i = n := by omega
      omega
theorem mzF_nn (Z : Nat → Int) (n : Nat) : 0 ≤ mzF Z n := by
  induction n with
  | zero => exact Int.le_refl _
  | succ n ih =>
    show 0 ≤ max (max (mzF Z n) (Z n)) (-(Z n))
    omega
theorem mzF_le {Z : Nat → Int} {n : Nat} {B : Int} (hB : 0 ≤ B) (h : ∀ i, i < n → -B ≤ Z i ∧ Z i ≤ B) : mzF Z n ≤ B := by
  induction n with
  | zero => exact hB
  | succ n ih =>
    have h1 := ih fun i hi => h i (by omega)
    have h2 := h n (by omega)
    show max (max (mzF Z n) (Z n)) (-(Z n)) ≤ B
    omega
theorem rmax_u (a b : Int) (k : Nat) : rmax ((a : Rat) * sc (-(k : Int))) ((b : Rat) * sc (-(k : Int))) = ((max a b : Int) : Rat) * sc (-(k : Int)) := by
  unfold rmax
  have hp := sc_pos (-(k : Int))
  by_cases h : a < b
  · rw [if_pos ((scale_lt hp).2 h), show max a b = b by omega]
  · rw [if_neg (fun h2 => h ((scale_lt hp).1 h2)), show max a b = a by omega]
theorem moF_uq {k : Nat} {L : List Nat} {Z : Nat → Int} {n : Nat} (h : UL k L Z n) (j : Nat) (hj : j ≤ n) : RQ .f64 (moF L j) ((mzF Z j : Rat) * sc (-(k : Int))) ∧ (j < n → MoOk L j) := by
  induction j with
  | zero =>
    have z : RQ .f64 0 (((0 : Int) : Rat) * sc (-(k : Int))) := ⟨false, 0, -1074, by decide +kernel, by unfold sgr; simp⟩
    refine ⟨z, fun hn => ?_⟩
    have w := (h.2 0 hn).wide
    have wn := w.neg (cwide_ltF _)
    exact ⟨(h.2 0 hn).nn, z.order_some w, (z.mx2 w).order_some wn⟩
  | succ j ih =>
    obtain ⟨h1, h2⟩ := ih (by omega)
    have w := (h.2 j (by omega)).wide
    have wn := w.neg (cwide_ltF _)
    have e : -((Z j : Rat) * sc (-(k : Int))) = ((-(Z j) : Int) : Rat) * sc (-(k : Int)) := by rw [Rat.intCast_neg]; grind
    rw [e] at wn
    have m1 := h1.mx2 w
    rw [rmax_u] at m1
    have m2 := m1.mx2 wn
    rw [rmax_u] at m2
    have hm : RQ .f64 (moF L (j + 1)) ((mzF Z (j + 1) : Rat) * sc (-(k : Int))) := m2
    refine ⟨hm, fun hn => ?_⟩
    have w' := (h.2 (j + 1) hn).wide
    have wn' := w'.neg (cwide_ltF _)
    exact ⟨(h.2 (j + 1) hn).nn, hm.order_some w', (hm.mx2 w').order_some wn'⟩
end Go.Proofs.Ythacadbdncfocaa
