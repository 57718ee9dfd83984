/- Plain: tapered and gained quarters, checked by the kernel; roots of mean energies. -/
import Derived.Test.YthacadbdncfocaaFiQ
namespace Go.Proofs.Ythacadbdncfocaa
open Go Go.RowKit Ieee

/-- A list of one number, and its size. -/
def moOkB (x : Nat) : Bool := !isN .f32 x && ((FloatKind.f64.format.order 0 (cwide x)).isSome && (FloatKind.f64.format.order (mx2 .f64 0 (cwide x)) (ngF .f64 (cwide x))).isSome)
def mo1 (x : Nat) : Nat := mx2 .f64 (mx2 .f64 0 (cwide x)) (ngF .f64 (cwide x))
theorem moOk_one {x : Nat} (h : moOkB x = true) : ∀ j, j < [x].length → MoOk [x] j := by
  unfold moOkB at h
  simp only [Bool.and_eq_true, Bool.not_eq_true'] at h
  intro j hj
  obtain rfl : j = 0 := by simpa using hj
  exact ⟨h.1, h.2.1, h.2.2⟩
theorem moF_one (x : Nat) : moF [x] 1 = mo1 x := rfl
def qz (i : Nat) : Nat := qv ((i : Int) - 8)
def tpOk (i k c : Nat) : Bool := moOkB (tpV (qz i) k c) && !gtB (mo1 (tpV (qz i) k c)) (mo1 (qz i))
theorem taper_table : (List.range 17).all (fun i => moOkB (qz i) && (!gtB (mo1 (qz i)) (mo1 (qz i)) && (List.range 7).all fun c => (List.range c).all fun k => tpOk i k c)) = true := by decide +kernel
theorem taper_ok {z : Int} (h : -8 ≤ z ∧ z ≤ 8) : moOkB (qv z) = true ∧ gtB (mo1 (qv z)) (mo1 (qv z)) = false ∧ ∀ c k, c ≤ 6 → k < c → moOkB (tpV (qv z) k c) = true ∧ gtB (mo1 (tpV (qv z) k c)) (mo1 (qv z)) = false := by
  have h1 := List.all_eq_true.1 taper_table (z + 8).toNat (List.mem_range.2 (by omega))
  have e : qz (z + 8).toNat = qv z := by unfold qz; rw [show (((z + 8).toNat : Nat) : Int) - 8 = z by omega]
  unfold tpOk at h1
  simp only [Bool.and_eq_true, Bool.not_eq_true'] at h1
  rw [e] at h1
  obtain ⟨h2, h3, h4⟩ := h1
  refine ⟨h2, h3, fun c k hc hk => ?_⟩
  have h5 := List.all_eq_true.1 (List.all_eq_true.1 h4 c (List.mem_range.2 (by omega))) k (List.mem_range.2 hk)
  simp only [Bool.and_eq_true, Bool.not_eq_true'] at h5
  exact h5
/-- A number divided by its own size. -/
def owQ (x : Nat) : Nat := fop .quo .f32 (fop .add .f32 0 (fop .mul .f32 x x)) (floatOfInt .f32 1)
def owV (x : Nat) : Nat := if FloatKind.f32.format.order (rootF (owQ x)) 0 != some Ordering.eq then fop .quo .f32 x (rootF (owQ x)) else 0
def owOk (x : Nat) : Bool := rootOk (owQ x) && (!isN .f32 (owV x) && (if FloatKind.f32.format.order x 0 == some Ordering.eq then FloatKind.f32.format.order (owV x) 0 == some Ordering.eq else
  (!isN .f32 (fop .mul .f32 (owV x) (owV x)) && (!isN .f64 (gpF (cwide (fop .mul .f32 (owV x) (owV x))) 4607182418800017408) && !gtB (gpF (cwide (fop .mul .f32 (owV x) (owV x))) 4607182418800017408) c001))))
theorem own_table : (List.range 17).all (fun i => owOk (qz i)) = true := by decide +kernel
theorem own_ok {z : Int} (h : -8 ≤ z ∧ z ≤ 8) : owOk (qv z) = true := by
  have h1 := List.all_eq_true.1 own_table (z + 8).toNat (List.mem_range.2 (by omega))
  have e : qz (z + 8).toNat = qv z := by unfold qz; rw [show (((z + 8).toNat : Nat) : Int) - 8 = z by omega]
  rw [e] at h1
  exact h1
theorem gnS_own {A : List Nat} {k : Nat} (h : k < A.length) : gnS A 0 k = [A.getD k 0] := by
  unfold gnS
  rw [Nat.sub_zero, Nat.add_zero, show min A.length (k + 1) - k = 1 by omega, List.drop_eq_getElem_cons h, List.take_succ_cons, List.take_zero, List.getD_eq_getElem?_getD, List.getElem?_eq_getElem h]
  rfl
theorem gnQ_own {A : List Nat} {k : Nat} (h : k < A.length) : gnQ A 0 k = owQ (A.getD k 0) := by
  unfold gnQ owQ
  rw [gnS_own h, Nat.sub_zero, Nat.add_zero, show min A.length (k + 1) - k = 1 by omega]
  rfl
theorem gnF_own {A : List Nat} {k : Nat} (h : k < A.length) : gnF A 0 k = owV (A.getD k 0) := by
  unfold gnF owV
  rw [gnQ_own h]
/-- Energies of lists of quarters. -/
theorem enS_uq {A : List Nat} {Z : Nat → Int} {n : Nat} (h : UL 2 A Z n) (hb : ∀ i, i < n → -8 ≤ Z i ∧ Z i ≤ 8) (hn : n ≤ 1000) (j : Nat) (hj : j ≤ n) : ∃ e : Int, 0 ≤ e ∧ e ≤ 64 * j ∧ UQ 4 (enS A j) e := by
  induction j with
  | zero => exact ⟨0, Int.le_refl _, by omega, UQ.zero 4⟩
  | succ j ih =>
    obtain ⟨e, h0, h1, h2⟩ := ih (by omega)
    have hz := hb j (by omega)
    have hx := h.2 j (by omega)
    have hsq : 0 ≤ Z j * Z j ∧ Z j * Z j ≤ 64 := by
      rcases Int.le_total 0 (Z j) with hs | hs
      · exact ⟨Int.mul_nonneg hs hs, Int.mul_le_mul hz.2 hz.2 hs (by decide)⟩
      · refine ⟨Int.mul_nonneg_of_nonpos_of_nonpos hs hs, ?_⟩
        have := Int.mul_le_mul (show -(Z j) ≤ 8 by omega) (show -(Z j) ≤ 8 by omega) (by omega) (by decide)
        have e2 : -(Z j) * -(Z j) = Z j * Z j := Int.neg_mul_neg _ _
        omega
    have em : (Z j : Rat) * sc (-((2 : Nat) : Int)) * ((Z j : Rat) * sc (-((2 : Nat) : Int))) = ((Z j * Z j : Int) : Rat) * sc (-((4 : Nat) : Int)) := by
      rw [Rat.intCast_mul, show (-((4 : Nat) : Int)) = -((2 : Nat) : Int) + -((2 : Nat) : Int) by omega, sc_add]
      grind
    have hm : UQ 4 (fop .mul .f32 (A.getD j 0) (A.getD j 0)) (Z j * Z j) := by
      have := RQ.mul_rep hx hx (g := -((4 : Nat) : Int)) (by rw [em]; exact rep_u 4 (by decide) _ (by omega))
      rw [em] at this
      exact this
    have hs := h2.add hm (by decide) (by omega)
    exact ⟨e + Z j * Z j, by omega, by omega, hs⟩
theorem root_small {q : Nat} {v : Rat} (h : RQ .f32 q v) (h0 : 0 ≤ v) (h1 : v ≤ 1000) : rootOk q = true := by
  have hs : v < sc 1000 := by
    have : (1000 : Rat) < sc 1000 := by decide +kernel
    grind
  obtain ⟨y, r, hsq, y0, hy⟩ := h.wide.sqrt h0 hs
  have hyb : y ≤ 100 := sq_le (by grind) (by
    have h3 := uu64
    rw [h3] at hy
    unfold Ab at hy
    have := Rat.mul_le_mul_of_nonneg_right h1 (show (0 : Rat) ≤ 8 * (1 / 9007199254740992) by decide +kernel)
    grind)
  obtain ⟨d, -, -, hn⟩ := r.narrow (B := 100) (by unfold Ab; grind) (by decide +kernel)
  unfold rootOk
  rw [h.notNan, hsq, hn]
  rfl
theorem gain_ok {A : List Nat} {Z : Nat → Int} {n : Nat} (h : UL 2 A Z n) (hb : ∀ i, i < n → -8 ≤ Z i ∧ Z i ≤ 8) (hn : n ≤ 100) (r k : Nat) (hk : k < n) : rootOk (gnQ A r k) = true := by
  unfold gnQ
  rw [h.1]
  obtain ⟨lo, hlo⟩ : ∃ lo, k - r = lo := ⟨_, rfl⟩
  obtain ⟨m, hm⟩ : ∃ m, min n (k + r + 1) - lo = m := ⟨_, rfl⟩
  have hS : gnS A r k = (A.drop lo).take m := by unfold gnS; rw [h.1, hlo, hm]
  have hl : (gnS A r k).length = m := by rw [hS, List.length_take, List.length_drop, h.1]; omega
  have hU : UL 2 (gnS A r k) (fun i => Z (lo + i)) m := by
    refine ⟨hl, fun i hi => ?_⟩
    rw [hS, List.getD_eq_getElem?_getD, List.getElem?_take_of_lt hi, List.getElem?_drop, ← List.getD_eq_getElem?_getD]
    exact h.2 _ (by omega)
  obtain ⟨e, e0, e1, eu⟩ := enS_uq hU (fun i hi => hb _ (by omega)) (by omega) m (Nat.le_refl _)
  rw [hl, hlo, hm]
  have hm1 : 1 ≤ m := by omega
  have hmq : RQ .f32 (floatOfInt .f32 ((m : Nat) : Int)) (((m : Nat) : Int) : Rat) := RQ.ofInt .f32 _ (by show _ < 2 ^ 24; omega)
  rw [Rat.intCast_natCast] at hmq
  have m1 : (1 : Rat) ≤ (m : Rat) := by exact_mod_cast hm1
  have m0 : (m : Rat) ≠ 0 := by grind
  by_cases he : e = 0
  · subst he
    have z : ((0 : Int) : Rat) * sc (-((4 : Nat) : Int)) = 0 := by grind
    have eu' : RQ .f32 (enS (gnS A r k) m) 0 := by have := eu; unfold UQ at this; rw [z] at this; exact this
    have := eu'.quo_rep hmq (q := 0) (g := 0) m0 (by grind) ⟨0, by grind, by decide, by decide, by decide⟩
    exact root_small this (by grind) (by grind)
  · have he1 : (1 : Rat) ≤ (e : Rat) := Rat.intCast_le_intCast.2 (show (1 : Int) ≤ e by omega)
    have he2 : (e : Rat) ≤ 64 * (m : Rat) := by
      have := Rat.intCast_le_intCast.2 e1
      rw [Rat.intCast_mul, Rat.intCast_natCast] at this
      exact this
    have es : sc (-((4 : Nat) : Int)) = 1 / 16 := by decide +kernel
    unfold UQ at eu
    rw [es] at eu
    obtain ⟨q, hq⟩ : ∃ q : Rat, ((e : Rat) * (1 / 16)) / (m : Rat) = q := ⟨_, rfl⟩
    have hqm : q * (m : Rat) = (e : Rat) * (1 / 16) := by rw [← hq]; exact Rat.div_mul_cancel m0
    have hmb : (m : Rat) ≤ 100 := by
      have : m ≤ 100 := by omega
      exact_mod_cast this
    have q0 : 1 / 1600 ≤ q := by
      by_cases hc : 1 / 1600 ≤ q
      · exact hc
      · exfalso
        have h1 : q * (m : Rat) < 1 / 1600 * (m : Rat) := Rat.mul_lt_mul_of_pos_right (Rat.not_le.1 hc) (by grind)
        grind
    have q1 : q ≤ 4 := by
      by_cases hc : q ≤ 4
      · exact hc
      · exfalso
        have h1 : 4 * (m : Rat) < q * (m : Rat) := Rat.mul_lt_mul_of_pos_right (Rat.not_le.1 hc) (by grind)
        grind
    obtain ⟨d, r1, hd⟩ := eu.quo hmq m0 hqm (B := 4) (by unfold Ab; grind) (big_top (by grind))
    have u1 := uu32
    have t1 := tt32
    rw [u1] at hd
    have hd2 : Ab d (1 / 100000) := hd.mono (by grind)
    exact root_small r1 (by unfold Ab at hd2; grind) (by unfold Ab at hd2; grind)
end Go.Proofs.Ythacadbdncfocaa
