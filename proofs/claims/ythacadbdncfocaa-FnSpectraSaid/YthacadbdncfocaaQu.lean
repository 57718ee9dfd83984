/- Rational values of floats: comparisons, conversions, roots of 64 bits, whole parts. -/
import Derived.Test.YthacadbdncfocaaQt
namespace Go.Proofs.Ythacadbdncfocaa
open Go Ieee

theorem scale_lt {A C : Int} {c : Rat} (hc : 0 < c) : ((A : Rat) * c < C * c) ↔ A < C := by
  constructor
  · intro h
    have : (A : Rat) < C := by
      by_cases h2 : (A : Rat) < C
      · exact h2
      · have := Rat.mul_le_mul_of_nonneg_right (show (C : Rat) ≤ A by grind) (Rat.le_of_lt hc)
        grind
    exact_mod_cast this
  · intro h
    have : (A : Rat) < C := by exact_mod_cast h
    exact Rat.mul_lt_mul_of_pos_right this hc
theorem scale_eq {A C : Int} {c : Rat} (hc : 0 < c) : ((A : Rat) * c = C * c) ↔ A = C := by
  constructor
  · intro h
    have h3 : ((A : Rat) - C) * c = 0 := by grind
    rcases Rat.mul_eq_zero.1 h3 with h | h
    · have : (A : Rat) = C := by grind
      exact_mod_cast this
    · grind
  · rintro rfl; rfl
theorem RQ.order {k : FloatKind} {x y : Nat} {a b : Rat} (hx : RQ k x a) (hy : RQ k y b) : k.format.order x y = some (if a < b then .lt else if a = b then .eq else .gt) := by
  obtain ⟨s, m, i, h1, rfl⟩ := hx
  obtain ⟨t, n, j, h2, rfl⟩ := hy
  unfold Format.order
  rw [h1, h2]
  show some (compare (signed s m (i - min i j).toNat) (signed t n (j - min i j).toNat)) = _
  generalize hb : min i j = p
  have hi : (((i - p).toNat : Nat) : Int) = i - p := by omega
  have hj : (((j - p).toNat : Nat) : Int) = j - p := by omega
  have e1 := signed_rq s m (i - p).toNat
  have e2 := signed_rq t n (j - p).toNat
  rw [hi] at e1
  rw [hj] at e2
  have e3 : sc i = sc (i - p) * sc p := by rw [← sc_add]; congr 1; omega
  have e4 : sc j = sc (j - p) * sc p := by rw [← sc_add]; congr 1; omega
  have hp := sc_pos p
  have f1 : sgr s * ((m : Rat) * sc i) = ((signed s m (i - p).toNat : Int) : Rat) * sc p := by rw [e1, e3]; grind
  have f2 : sgr t * ((n : Rat) * sc j) = ((signed t n (j - p).toNat : Int) : Rat) * sc p := by rw [e2, e4]; grind
  rw [f1, f2]
  generalize signed s m (i - p).toNat = A
  generalize signed t n (j - p).toNat = C
  congr 1
  by_cases c1 : A < C
  · rw [if_pos ((scale_lt hp).2 c1)]
    exact Int.compare_eq_lt.2 c1
  · rw [if_neg (fun h => c1 ((scale_lt hp).1 h))]
    by_cases c2 : A = C
    · rw [if_pos ((scale_eq hp).2 c2)]
      exact Int.compare_eq_eq.2 c2
    · rw [if_neg (fun h => c2 ((scale_eq hp).1 h))]
      exact Int.compare_eq_gt.2 (by omega)
theorem RQ.fin {k : FloatKind} {x : Nat} {a : Rat} (h : RQ k x a) : fin k x = true := by
  obtain ⟨s, m, e, h1, -⟩ := h
  unfold Proofs.Ythacadbdncfocaa.fin FloatKind.decode
  rw [h1]
theorem RQ.of_fin {k : FloatKind} {x : Nat} (h : Proofs.Ythacadbdncfocaa.fin k x = true) : ∃ a, RQ k x a := by
  unfold Proofs.Ythacadbdncfocaa.fin FloatKind.decode at h
  cases hr : k.format.read x with
  | number s m e => exact ⟨_, s, m, e, hr, rfl⟩
  | infinity s => rw [hr] at h; cases h
  | nan s t => rw [hr] at h; cases h
theorem RQ.wide {x : Nat} {q : Rat} (h : RQ .f32 x q) : RQ .f64 (cwide x) q := by
  have hn := h.notNan
  obtain ⟨s, m, e, h1, rfl⟩ := h
  obtain ⟨hm, he, he2⟩ := read_bounds32 x h1
  unfold cwide
  rw [if_neg (by rw [hn]; decide)]
  unfold FloatKind.encode FloatKind.decode
  rw [show FloatKind.f32.format.read x = .number s m e from h1]
  refine write_rep .f64 s m e _ e rfl ⟨if s then -(m : Int) else (m : Int), ?_, ?_, ?_, ?_⟩
  · cases s
    · simp only [Bool.false_eq_true, if_false, sgr, Rat.intCast_natCast]; grind
    · simp only [if_true, sgr, Rat.intCast_neg, Rat.intCast_natCast]; grind
  · have : (if s = true then -(m : Int) else (m : Int)).natAbs = m := by cases s <;> simp
    rw [this]
    have : fracB .f64 = 52 := rfl
    rw [this]
    omega
  · have : leastB .f64 = -1074 := rfl
    omega
  · have : topB .f64 = 1023 := rfl
    have : fracB .f64 = 52 := rfl
    omega
theorem narrow_ok {y : Nat} {s : Bool} {m : Nat} {e : Int} {q : Rat} (h1 : FloatKind.f64.format.read y = .number s m e) (h : RQ .f32 (FloatKind.f32.format.write (.number s m e)) q) : nrwOk y = true := by
  obtain ⟨s', m', e', h2, -⟩ := h
  unfold nrwOk FloatKind.decode FloatKind.encode
  rw [h1]
  show (!(FloatKind.f32.format.read (FloatKind.f32.format.write (.number s m e))).isInfinity) = true
  rw [h2]
  rfl
theorem RQ.narrow {y : Nat} {q B : Rat} (h : RQ .f64 y q) (hB : Ab q B) (hs : B < sc 127) : ∃ d, RQ .f32 (nrw y) (q + d) ∧ Ab d (B * uu .f32 + tt .f32) ∧ nrwOk y = true := by
  obtain ⟨s, m, e, h1, rfl⟩ := h
  obtain ⟨d, r1, r2, -⟩ := write_rq .f32 s m e _ B rfl hB hs
  refine ⟨d, ?_, r2, narrow_ok h1 r1⟩
  unfold nrw FloatKind.encode FloatKind.decode
  rw [h1]
  exact r1
theorem RQ.narrow_rep {y : Nat} {q : Rat} {g : Int} (h : RQ .f64 y q) (hr : Rep .f32 q g) : RQ .f32 (nrw y) q ∧ nrwOk y = true := by
  obtain ⟨s, m, e, h1, rfl⟩ := h
  have r1 := write_rep .f32 s m e _ g rfl hr
  refine ⟨?_, narrow_ok h1 r1⟩
  unfold nrw FloatKind.encode FloatKind.decode
  rw [h1]
  exact r1
theorem RQ.ofInt (k : FloatKind) (n : Int) (h : n.natAbs < 2 ^ (fracB k + 1)) : RQ k (floatOfInt k n) n := by
  have h0 : sgr (decide (n < 0)) * ((n.natAbs : Nat) : Rat) = (n : Rat) := natAbs_rq n _ fun _ => by simp
  refine write_rep k _ _ 0 _ 0 (by rw [sc_zero]; grind) ⟨n, by rw [sc_zero]; grind, h, by cases k <;> decide, by cases k <;> decide⟩
theorem read_place {f : Format} {x : Nat} {s : Bool} {m : Nat} {e : Int} (h : f.read x = .number s m e) : f.leastPlace ≤ e := by
  unfold Format.read at h
  dsimp only at h
  split at h
  · cases h; exact Int.le_refl _
  · split at h
    · cases h; omega
    · split at h <;> cases h
theorem RQ.sqrt {x : Nat} {q : Rat} (hx : RQ .f64 x q) (hq : 0 ≤ q) (hs : q < sc 1000) : ∃ y, RQ .f64 (sqr x) y ∧ (FloatKind.f64.format.sqrt x).isSome = true ∧ 0 ≤ y ∧ Ab (y * y - q) (q * (8 * uu .f64)) := by
  obtain ⟨s, m, i, h1, rfl⟩ := hx
  have hform : FloatKind.f64.format.sqrt x = (Datum.root 54 (.number s m i)).map FloatKind.f64.format.write := by
    unfold Format.sqrt
    rw [h1]
    rfl
  unfold sqr
  rw [hform]
  by_cases hm : m = 0
  · subst hm
    have e : Datum.root 54 (.number s 0 i) = some (.number s 0 i) := by unfold Datum.root; simp
    rw [e]
    have h0 : sgr s * (((0 : Nat) : Rat) * sc i) = 0 := by rw [show ((0 : Nat) : Rat) = 0 from rfl]; grind
    have r := write_rep .f64 s 0 i 0 0 h0.symm ⟨0, by rw [show ((0 : Int) : Rat) = 0 from rfl]; grind, by decide, by decide, by decide⟩
    refine ⟨0, r, rfl, by grind, ?_⟩
    rw [h0]
    unfold Ab
    grind
  · have hpos : 0 < (m : Rat) * sc i := Rat.mul_pos (nat_pos hm) (sc_pos i)
    have hs0 : s = false := by
      cases s
      · rfl
      · unfold sgr at hq; grind
    subst hs0
    have e0 : sgr false * ((m : Rat) * sc i) = m * sc i := by unfold sgr; grind
    rw [e0] at hq hs ⊢
    obtain ⟨T, p, c, hr, hv, hc, hlo, hpl, -⟩ := root_mag m 54 i hm
    rw [hr]
    have hpi : leastB .f64 ≤ i := by have := read_place h1; exact this
    have hl : leastB .f64 = -1074 := rfl
    obtain ⟨X, hX⟩ : ∃ X, (T : Rat) * sc p = X := ⟨_, rfl⟩
    have hX0 : 0 ≤ X := by rw [← hX]; exact Rat.mul_nonneg (nat_nn T) (Rat.le_of_lt (sc_pos p))
    obtain ⟨V, hV⟩ : ∃ V, (m : Rat) * sc i = V := ⟨_, rfl⟩
    rw [hV] at hv hc hs hpos ⊢
    rw [hX] at hv hlo
    have hu : sc (1 - ((54 : Nat) : Int)) = uu .f64 := by decide +kernel
    rw [hu] at hc
    have huu : uu .f64 ≤ 1 / 1024 := by decide +kernel
    have hup := uu_pos .f64
    -- the least place plays no part
    have htX : tt .f64 ≤ X * uu .f64 := by
      have h5 : sc (-600) ≤ sc ((54 : Nat) : Int) * sc (p + 1) := by
        rw [← sc_add]
        exact sc_le (by omega)
      have h6 : sc (-600) ≤ X := by grind
      have h7 := Rat.mul_le_mul_of_nonneg_right h6 (Rat.le_of_lt hup)
      have h8 : tt .f64 ≤ sc (-600) * uu .f64 := by decide +kernel
      grind
    have hVu := Rat.mul_nonneg (Rat.le_of_lt hpos) (Rat.le_of_lt hup)
    have hVu2 := Rat.mul_le_mul_of_nonneg_left huu (Rat.le_of_lt hpos)
    have hXX : X * X ≤ V + V * (1 / 1024) := by unfold Ab at hc; grind
    have hXs : X < sc 501 := by
      refine sq_lt (Rat.le_of_lt (sc_pos _)) ?_
      rw [← sc_add]
      have : sc (501 + 501) = sc 1000 * 4 := by rw [show (501 + 501 : Int) = 1000 + 2 by decide, sc_add]; rfl
      rw [this]
      grind
    obtain ⟨d, r1, r2, -⟩ := write_rq .f64 false T p X X (by rw [← hX]; unfold sgr; grind) (by unfold Ab; grind) (by have := sc_le (show (501 : Int) ≤ topB .f64 by decide); grind)
    have hXu := Rat.mul_nonneg hX0 (Rat.le_of_lt hup)
    have hd : Ab d (X * uu .f64 * 2) := r2.mono (by grind)
    have hXu2 := Rat.mul_le_mul_of_nonneg_left huu hX0
    have hdX : Ab d (X * (1 / 512)) := hd.mono (by grind)
    refine ⟨X + d, r1, rfl, by unfold Ab at hdX; grind, ?_⟩
    -- (X + d)^2 - V = c + 2 X d + d^2
    have e2 : (X + d) * (X + d) - V = c + X * d * 2 + d * d := by grind
    rw [e2]
    have hXd : Ab (X * d) (X * X * uu .f64 * 2) := by
      unfold Ab at hd ⊢
      have a1 := Rat.mul_le_mul_of_nonneg_left hd.1 hX0
      have a2 := Rat.mul_le_mul_of_nonneg_left hd.2 hX0
      grind
    have hdd : Ab (d * d) (X * X * uu .f64 * (1 / 128)) := by
      unfold Ab at hd hdX hXd ⊢
      have hdd0 : 0 ≤ d * d := by
        by_cases h : 0 ≤ d
        · exact Rat.mul_nonneg h h
        · have := Rat.mul_nonneg (show 0 ≤ -d by grind) (show 0 ≤ -d by grind)
          grind
      have hXXu : 0 ≤ X * X * uu .f64 := Rat.mul_nonneg (Rat.mul_nonneg hX0 hX0) (Rat.le_of_lt hup)
      refine ⟨by grind, ?_⟩
      by_cases h : 0 ≤ d
      · have a1 : d * d ≤ (X * (1 / 512)) * d := Rat.mul_le_mul_of_nonneg_right hdX.2 h
        grind
      · have a1 : (-d) * (-d) ≤ (X * (1 / 512)) * (-d) := Rat.mul_le_mul_of_nonneg_right (by grind) (by grind)
        grind
    have hXXu2 : X * X * uu .f64 ≤ (V + V * (1 / 1024)) * uu .f64 := Rat.mul_le_mul_of_nonneg_right hXX (Rat.le_of_lt hup)
    unfold Ab at hc hXd hdd ⊢
    grind
theorem RQ.sqrt_rep {x : Nat} {q : Rat} (hx : RQ .f64 x q) {z : Nat} {g : Int} (h : z * sc g * (z * sc g) = q) (hz : z < 2 ^ 53) (hg : -1074 ≤ g) (hg2 : g ≤ 900) : RQ .f64 (sqr x) (z * sc g) ∧ (FloatKind.f64.format.sqrt x).isSome = true := by
  obtain ⟨s, m, i, h1, rfl⟩ := hx
  have hform : FloatKind.f64.format.sqrt x = (Datum.root 54 (.number s m i)).map FloatKind.f64.format.write := by
    unfold Format.sqrt
    rw [h1]
    rfl
  unfold sqr
  rw [hform]
  have hzg : 0 ≤ (z : Rat) * sc g := Rat.mul_nonneg (nat_nn z) (Rat.le_of_lt (sc_pos g))
  have hzz : 0 ≤ (z : Rat) * sc g * (z * sc g) := Rat.mul_nonneg hzg hzg
  by_cases hm : m = 0
  · subst hm
    have e : Datum.root 54 (.number s 0 i) = some (.number s 0 i) := by unfold Datum.root; simp
    rw [e]
    have h0 : sgr s * (((0 : Nat) : Rat) * sc i) = 0 := by rw [show ((0 : Nat) : Rat) = 0 from rfl]; grind
    have r := write_rep .f64 s 0 i 0 0 h0.symm ⟨0, by rw [show ((0 : Int) : Rat) = 0 from rfl]; grind, by decide, by decide, by decide⟩
    have hz0 : (z : Rat) * sc g = 0 := by
      rw [h0] at h
      rcases Rat.mul_eq_zero.1 h with h | h <;> exact h
    rw [hz0]
    exact ⟨r, rfl⟩
  · have hpos : 0 < (m : Rat) * sc i := Rat.mul_pos (nat_pos hm) (sc_pos i)
    have hs0 : s = false := by
      cases s
      · rfl
      · unfold sgr at h; grind
    subst hs0
    have e0 : sgr false * ((m : Rat) * sc i) = m * sc i := by unfold sgr; grind
    rw [e0] at h
    obtain ⟨T, p, c, hr, -, -, -, -, hx⟩ := root_mag m 54 i hm
    have hv := hx z g h (by omega)
    rw [hr]
    refine ⟨?_, rfl⟩
    have r := write_rep .f64 false T p (z * sc g) g (by rw [hv]; unfold sgr; grind) ⟨(z : Int), by rw [Rat.intCast_natCast], by
      have : fracB .f64 = 52 := rfl
      rw [this]; omega, by have : leastB .f64 = -1074 := rfl
                           omega, by have : topB .f64 = 1023 := rfl
                                     have : fracB .f64 = 52 := rfl
                                     omega⟩
    exact r
end Go.Proofs.Ythacadbdncfocaa
