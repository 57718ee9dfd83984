/- Plain: what FnFilters asks of traces of quarters; tables that the kernel checks. -/
import Derived.Test.YthacadbdncfocaaFiP
namespace Go.Proofs.Ythacadbdncfocaa
open Go Go.RowKit Ieee

def c001 : Nat := 4562254508917369340
/-- A drawn trace. -/
def zF (zs : List Int) (i : Nat) : Int := zs.getD i 0
theorem ul_qv {zs : List Int} (h : ∀ z ∈ zs, -8 ≤ z ∧ z ≤ 8) : UL 2 (zs.map qv) (zF zs) zs.length ∧ ∀ i, i < zs.length → -8 ≤ zF zs i ∧ zF zs i ≤ 8 := by
  have hm : ∀ i, i < zs.length → zF zs i ∈ zs := fun i hi => by
    unfold zF
    rw [List.getD_eq_getElem?_getD, List.getElem?_eq_getElem hi]
    exact List.getElem_mem hi
  refine ⟨⟨List.length_map _, fun i hi => ?_⟩, fun i hi => h _ (hm i hi)⟩
  have e : (zs.map qv).getD i 0 = qv (zF zs i) := by
    unfold zF
    rw [List.getD_eq_getElem?_getD, List.getElem?_map, List.getD_eq_getElem?_getD, List.getElem?_eq_getElem hi]
    rfl
  rw [e]
  exact UQ.qv (h _ (hm i hi))
theorem getD_qv {zs : List Int} {i : Nat} (hi : i < zs.length) : (zs.map qv).getD i 0 = qv (zF zs i) := by
  unfold zF
  rw [List.getD_eq_getElem?_getD, List.getElem?_map, List.getD_eq_getElem?_getD, List.getElem?_eq_getElem hi]
  rfl
/-- Smooth and rough parts are the trace. -/
theorem both_near {A : List Nat} {Z : Nat → Int} {n : Nat} (h : UL 2 A Z n) (hb : ∀ i, i < n → -8 ≤ Z i ∧ Z i ≤ 8) (r : Nat) (hr : r ≤ 4) (i : Nat) (hi : i < n) :
    NearB ((addL (smR A r) (subL A (smR A r))).getD i 0) (A.getD i 0) c001 := by
  obtain ⟨h1, h2⟩ := smR_uq h 8 (by decide) (by decide) hb r (by omega)
  have hp : ((4 ^ r : Nat) : Int) ≤ 256 := by
    have : 4 ^ r ≤ 4 ^ 4 := Nat.pow_le_pow_right (by decide) hr
    have e : (4 : Nat) ^ 4 = 256 := by decide
    omega
  have hs := h2 i hi
  have s1 := h1.2 i hi
  have a1 := (h.2 i hi).fine (2 * r)
  have hz := hb i hi
  have e4 : 2 ^ (2 * r) = 4 ^ r := by rw [Nat.pow_mul]
  rw [e4] at a1
  have b0 : (0 : Int) ≤ ((4 ^ r : Nat) : Int) := Int.natCast_nonneg _
  have b1 : Z i * ((4 ^ r : Nat) : Int) ≤ 8 * 256 := by
    have := Int.mul_le_mul hz.2 hp b0 (by decide)
    exact this
  have b2 : -(8 * 256) ≤ Z i * ((4 ^ r : Nat) : Int) := by
    have := Int.mul_le_mul (show -(Z i) ≤ 8 by omega) hp b0 (by decide)
    have e : -(Z i) * ((4 ^ r : Nat) : Int) = -(Z i * ((4 ^ r : Nat) : Int)) := Int.neg_mul _ _
    omega
  have b3 : ((4 ^ r : Nat) : Int) * 8 ≤ 2048 := by omega
  have r1 := a1.sub s1 (by omega) (by omega)
  have r2 := s1.add r1 (by omega) (by omega)
  have e5 : smZR Z n r i + (Z i * ((4 ^ r : Nat) : Int) - smZR Z n r i) = Z i * ((4 ^ r : Nat) : Int) := by omega
  rw [e5] at r2
  have g1 : (addL (smR A r) (subL A (smR A r))).getD i 0 = fop .add .f32 ((smR A r).getD i 0) (fop .sub .f32 (A.getD i 0) ((smR A r).getD i 0)) := by
    rw [addL, tab_getD _ _ _ (by rw [h1.1]; exact hi), subL, tab_getD _ _ _ (by rw [h.1]; exact hi)]
  rw [g1]
  exact nearB_eq r2 a1
theorem most_near {A : List Nat} {Z : Nat → Int} {n : Nat} (h : UL 2 A Z n) (hb : ∀ i, i < n → -8 ≤ Z i ∧ Z i ≤ 8) (r : Nat) (hr : r ≤ 4) :
    isN .f64 (fop .add .f64 (moF A n) c001) = false ∧ gtB (moF (smR A r) n) (fop .add .f64 (moF A n) c001) = false := by
  obtain ⟨h1, -⟩ := smR_uq h 8 (by decide) (by decide) hb r (by omega)
  have hge := mzF_ge Z n
  obtain ⟨-, h2⟩ := smR_uq h (mzF Z n) (mzF_nn Z n) (mzF_le (by decide) hb) hge r (by omega)
  have m1 := (moF_uq h1 n (Nat.le_refl _)).1
  have m2 := (moF_uq h n (Nat.le_refl _)).1
  have hle := mzF_le (n := n) (B := ((4 ^ r : Nat) : Int) * mzF Z n) (Int.mul_nonneg (Int.natCast_nonneg _) (mzF_nn Z n)) h2
  have h8 : mzF Z n ≤ 8 := mzF_le (by decide) hb
  have h0 := mzF_nn Z n
  have e1 : (mzF (smZR Z n r) n : Rat) * sc (-((2 + 2 * r : Nat) : Int)) ≤ (mzF Z n : Rat) * sc (-((2 : Nat) : Int)) := by
    have q1 : (mzF (smZR Z n r) n : Rat) ≤ ((((4 ^ r : Nat) : Int) * mzF Z n : Int) : Rat) := Rat.intCast_le_intCast.2 hle
    have q2 := Rat.mul_le_mul_of_nonneg_right q1 (Rat.le_of_lt (sc_pos (-((2 + 2 * r : Nat) : Int))))
    have q3 : ((((4 ^ r : Nat) : Int) * mzF Z n : Int) : Rat) * sc (-((2 + 2 * r : Nat) : Int)) = (mzF Z n : Rat) * sc (-((2 : Nat) : Int)) := by
      rw [Rat.intCast_mul, Rat.intCast_natCast, show (4 : Nat) ^ r = 2 ^ (2 * r) by rw [Nat.pow_mul], ← sc_nat, show (-((2 + 2 * r : Nat) : Int)) = -((2 * r : Nat) : Int) + -((2 : Nat) : Int) by omega, sc_add]
      have := sc_cancel ((2 * r : Nat) : Int)
      grind
    rw [q3] at q2
    exact q2
  have e2 : (mzF Z n : Rat) ≤ 8 := Rat.intCast_le_intCast.2 h8
  have e3 : (0 : Rat) ≤ (mzF Z n : Rat) := Rat.intCast_le_intCast.2 h0
  have es : sc (-((2 : Nat) : Int)) = 1 / 4 := by decide +kernel
  rw [es] at e1 m2
  have ec : sgr false * (((4611686018427388 : Nat) : Rat) * sc (-62)) ≤ 1 / 100 ∧ 1 / 2000 ≤ sgr false * (((4611686018427388 : Nat) : Rat) * sc (-62)) := by decide +kernel
  have hc := c001_rq
  generalize sgr false * (((4611686018427388 : Nat) : Rat) * sc (-62)) = cc at *
  generalize (mzF (smZR Z n r) n : Rat) * sc (-((2 + 2 * r : Nat) : Int)) = s at *
  have hAb : Ab ((mzF Z n : Rat) * (1 / 4) + cc) 3 := by unfold Ab; grind
  obtain ⟨d, r1, hd⟩ := m2.add hc hAb (big_top64 (by grind))
  have u1 := uu64
  have t1 := tt64
  rw [u1] at hd
  have hd2 : Ab d (1 / 1000000) := hd.mono (by grind)
  refine ⟨r1.notNan, ?_⟩
  show gtB (moF (smR A r) n) (fop .add .f64 (moF A n) 4562254508917369340) = false
  unfold gtB
  have hlt : s < (mzF Z n : Rat) * (1 / 4) + cc + d := by unfold Ab at hd2; grind
  rw [m1.order r1, if_pos hlt]
  rfl
theorem back_near {A : List Nat} {Z : Nat → Int} {n : Nat} (h : UL 2 A Z n) (hb : ∀ i, i < n → -8 ≤ Z i ∧ Z i ≤ 8) (i : Nat) (hi : i < n) : NearB ((igL (dfL A) n).getD i 0) (A.getD i 0) c001 := by
  have e : (igL (dfL A) n).getD i 0 = igF (dfL A) (i + 1) := by
    unfold igL
    rw [List.getD_eq_getElem?_getD, List.getElem?_map, List.getElem?_range hi]
    rfl
  rw [e]
  exact nearB_eq (igF_uq h hb i hi) (h.2 i hi)
/-- Turns, in parts of 32. -/
def tnT (T : Nat) : Nat := fop .quo .f32 (floatOfInt .f32 (T : Int)) 1107296256
def waX (T k : Nat) : Nat := fop .add .f32 (fop .mul .f32 (floatOfInt .f32 (k : Int)) (tnT T)) 1040187392
def waV (T k : Nat) : Nat := sinS (waX T k)
def waL (T n : Nat) : List Nat := (List.range n).map (waV T)
theorem waL_snoc (T n : Nat) : waL T (n + 1) = waL T n ++ [waV T n] := by
  unfold waL
  rw [List.range_succ, List.map_append]
  rfl
theorem waL_length (T n : Nat) : (waL T n).length = n := by unfold waL; rw [List.length_map, List.length_range]
theorem waL_getD (T n k : Nat) (h : k < n) : (waL T n).getD k 0 = waV T k := by
  unfold waL
  rw [List.getD_eq_getElem?_getD, List.getElem?_map, List.getElem?_range h]
  rfl
def nvW (W : List Nat) (c k : Nat) : Nat := fop .add .f32 (fop .sub .f32 (W.getD k 0) (fop .mul .f32 c (W.getD (k - 1) 0))) (W.getD (k - 2) 0)
theorem ntF_wa (T n k c : Nat) (h2 : 2 ≤ k) (h : k < n) (hn : n ≤ 12) : ntF (waL T n) c k = nvW (waL T 12) c k := by
  unfold ntF nvW atV inB
  rw [waL_length, waL_getD _ _ _ h, if_pos (by simp; omega), if_pos (by simp; omega), show ((k : Int) - 1).toNat = k - 1 by omega, show ((k : Int) - 2).toNat = k - 2 by omega, waL_getD _ _ _ (by omega), waL_getD _ _ _ (by omega), waL_getD _ _ _ (by omega), waL_getD _ _ _ (by omega), waL_getD _ _ _ (by omega)]
def waOk (T k : Nat) : Bool := !isN .f32 (tnT T) && (!isN .f32 (fop .mul .f32 (floatOfInt .f32 (k : Int)) (tnT T)) && (!isN .f32 (waX T k) && sinSOk (waX T k)))
def nvOk (W : List Nat) (c k : Nat) : Bool := decide (k < 2) || (!isN .f32 (nvW W c k) && (!isN .f64 (gpF (cwide (nvW W c k)) 0) && !gtB (gpF (cwide (nvW W c k)) 0) c001))
structure WaveOk (T : Nat) : Prop where
  n : ntOk (tnT T) = true
  w : ∀ k, k < 12 → waOk T k = true
  v : ∀ k, k < 12 → nvOk (waL T 12) (ntC (tnT T)) k = true
theorem wave_of {T : Nat} (W : List Nat) (c : Nat) (h1 : ntOk (tnT T) = true) (h2 : (List.range 12).all (waOk T) = true) (h3 : (waL T 12 == W) = true) (h4 : (ntC (tnT T) == c) = true) (h5 : (List.range 12).all (nvOk W c) = true) : WaveOk T := by
  rw [beq_iff_eq] at h3 h4
  refine ⟨h1, fun k hk => List.all_eq_true.1 h2 k (List.mem_range.2 hk), fun k hk => ?_⟩
  rw [h3, h4]
  exact List.all_eq_true.1 h5 k (List.mem_range.2 hk)
end Go.Proofs.Ythacadbdncfocaa
