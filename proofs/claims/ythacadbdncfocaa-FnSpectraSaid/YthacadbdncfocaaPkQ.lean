/- Plain: the best shift of what FnPicks draws. -/
import Derived.Test.YthacadbdncfocaaPkP
import Derived.Test.YthacadbdncfocaaPl
namespace Go.Proofs.Ythacadbdncfocaa
open Go

/-- A quarter of an integer, as the draws make it. -/
def qv (z : Int) : Nat := fop .quo .f32 (floatOfInt .f32 z) 1082130432
theorem qv_fx (z : Int) (h0 : -8 ≤ z) (h1 : z ≤ 8) : Fx 2 (qv z) z ∧ Cls .f32 (qv z) := by
  have hz : z = -8 ∨ z = -7 ∨ z = -6 ∨ z = -5 ∨ z = -4 ∨ z = -3 ∨ z = -2 ∨ z = -1 ∨ z = 0 ∨ z = 1 ∨ z = 2 ∨ z = 3 ∨ z = 4 ∨ z = 5 ∨ z = 6 ∨ z = 7 ∨ z = 8 := by omega
  refine ⟨?_, fop_cls⟩
  rcases hz with rfl | rfl | rfl | rfl | rfl | rfl | rfl | rfl | rfl | rfl | rfl | rfl | rfl | rfl | rfl | rfl | rfl <;> exact Fx.of (by decide +kernel)
/-- The numbers some places further on. -/
def latF (P : List Nat) (t : Int) : List Nat := tab (fun k => if inB ((k : Int) + t) 0 ((P.length : Int) - 1) then P.getD ((k : Int) + t).toNat 0 else 0) P.length
def corL (A B : List Nat) (m : Nat) : List Nat := tab (fun i => corS A B ((i : Int) - m) A.length) (2 * m + 1)
/-- The sum of the squares. -/
def enS (L : List Nat) : Nat → Nat
  | 0 => 0
  | k + 1 => fop .add .f32 (enS L k) (fop .mul .f32 (L.getD k 0) (L.getD k 0))
/-- Six drawn numbers. -/
structure Six where
  a : Int
  b : Int
  c : Int
  d : Int
  e : Int
  f : Int
def Six.l (s : Six) : List Int := [s.a, s.b, s.c, s.d, s.e, s.f]
def Six.ok (s : Six) : Prop := ∀ z ∈ s.l, -8 ≤ z ∧ z ≤ 8
def Six.F (s : Six) : List Nat := s.l.map qv
def Six.P (s : Six) : List Nat := s.F ++ [0, 0, 0, 0]
def Six.en (s : Six) : Int := enI s.a s.b s.c s.d s.e s.f
theorem Six.pad (s : Six) (h : s.ok) (k : Nat) : Fx 2 (s.P.getD k 0) ((padI s.l).getD k 0) ∧ -8 ≤ (padI s.l).getD k 0 ∧ (padI s.l).getD k 0 ≤ 8 := by
  have key : ∀ z, z ∈ s.l → Fx 2 (qv z) z ∧ -8 ≤ z ∧ z ≤ 8 := fun z hz => ⟨(qv_fx z (h z hz).1 (h z hz).2).1, h z hz⟩
  have z0 : Fx 2 0 0 ∧ (-8 : Int) ≤ 0 ∧ (0 : Int) ≤ 8 := ⟨Fx.zero 2, by decide, by decide⟩
  obtain ⟨a, b, c, d, e, f⟩ := s
  match k with
  | 0 => exact key a (by simp [Six.l])
  | 1 => exact key b (by simp [Six.l])
  | 2 => exact key c (by simp [Six.l])
  | 3 => exact key d (by simp [Six.l])
  | 4 => exact key e (by simp [Six.l])
  | 5 => exact key f (by simp [Six.l])
  | 6 => exact z0
  | 7 => exact z0
  | 8 => exact z0
  | 9 => exact z0
  | k + 10 => exact z0
theorem latF_fx (s : Six) (h : s.ok) (t : Nat) (ht : t < 5) (k : Nat) : Fx 2 ((latF s.P (-(t : Int))).getD k 0) ((latI s.l t).getD k 0) ∧ -8 ≤ (latI s.l t).getD k 0 ∧ (latI s.l t).getD k 0 ≤ 8 := by
  have z0 : Fx 2 0 0 ∧ (-8 : Int) ≤ 0 ∧ (0 : Int) ≤ 8 := ⟨Fx.zero 2, by decide, by decide⟩
  have hl : s.P.length = 10 := rfl
  by_cases hk : k < 10
  · have e1 : (latF s.P (-(t : Int))).getD k 0 = if inB ((k : Int) + -(t : Int)) 0 ((s.P.length : Int) - 1) then s.P.getD ((k : Int) + -(t : Int)).toNat 0 else 0 := tab_getD _ _ _ (by rw [hl]; exact hk)
    have e2 : (latI s.l t).getD k 0 = if t ≤ k then (padI s.l).getD (k - t) 0 else 0 := by
      simp [latI, List.getD_eq_getElem?_getD, List.getElem?_map, List.getElem?_range hk]
    rw [e1, e2, hl]
    by_cases htk : t ≤ k
    · have e3 : inB ((k : Int) + -(t : Int)) 0 (((10 : Nat) : Int) - 1) = true := by unfold inB; simp; omega
      rw [e3, if_pos rfl, if_pos htk]
      have e4 : ((k : Int) + -(t : Int)).toNat = k - t := by omega
      rw [e4]
      exact s.pad h _
    · have e3 : inB ((k : Int) + -(t : Int)) 0 (((10 : Nat) : Int) - 1) = false := by unfold inB; simp; omega
      rw [e3, if_neg (by decide), if_neg htk]
      exact z0
  · have e1 : (latF s.P (-(t : Int))).getD k 0 = 0 := by
      rw [List.getD_eq_getElem?_getD, List.getElem?_eq_none (by unfold latF; rw [tab_length, hl]; omega)]; rfl
    have e2 : (latI s.l t).getD k 0 = 0 := by
      rw [List.getD_eq_getElem?_getD, List.getElem?_eq_none (by simp [latI]; omega)]; rfl
    rw [e1, e2]
    exact z0
theorem Six.enF (s : Six) (h : s.ok) : Fx 4 (enS s.F 6) s.en := by
  obtain ⟨a, b, c, d, e, f⟩ := s
  have key : ∀ z, z ∈ (Six.mk a b c d e f).l → Fx 4 (fop .mul .f32 (qv z) (qv z)) (z * z) ∧ 0 ≤ z * z ∧ z * z ≤ 64 := fun z hz => by
    have hz2 := h z hz
    have hb : z * z ≤ 64 := by
      have : (z * z).natAbs ≤ 64 := by
        rw [Int.natAbs_mul]
        exact Nat.le_trans (Nat.mul_le_mul (show z.natAbs ≤ 8 by omega) (show z.natAbs ≤ 8 by omega)) (by decide)
      omega
    have hn := sq_nn z
    exact ⟨Fx.fopMul (qv_fx z hz2.1 hz2.2).1 (qv_fx z hz2.1 hz2.2).1 (by decide) (by omega), hn, hb⟩
  obtain ⟨ka, a0, a1⟩ := key a (by simp [Six.l])
  obtain ⟨kb, b0, b1⟩ := key b (by simp [Six.l])
  obtain ⟨kc, c0, c1⟩ := key c (by simp [Six.l])
  obtain ⟨kd, d0, d1⟩ := key d (by simp [Six.l])
  obtain ⟨ke, e0, e1⟩ := key e (by simp [Six.l])
  obtain ⟨kf, f0, f1⟩ := key f (by simp [Six.l])
  have s1 := Fx.fopAdd (Fx.zero 4) ka (by decide) (by omega)
  have s2 := Fx.fopAdd s1 kb (by decide) (by omega)
  have s3 := Fx.fopAdd s2 kc (by decide) (by omega)
  have s4 := Fx.fopAdd s3 kd (by decide) (by omega)
  have s5 := Fx.fopAdd s4 ke (by decide) (by omega)
  have s6 := Fx.fopAdd s5 kf (by decide) (by omega)
  have e : Six.en ⟨a, b, c, d, e, f⟩ = 0 + a * a + b * b + c * c + d * d + e * e + f * f := by
    show enI a b c d e f = _
    unfold enI; omega
  rw [e]
  exact s6
theorem corL_fx (s : Six) (h : s.ok) (t : Nat) (ht : t < 5) (i : Nat) (hi : i < 13) :
    Fx 4 ((corL s.P (latF s.P (-(t : Int))) 6).getD i 0) (corI (padI s.l) (latI s.l t) ((i : Int) - 6) 10) := by
  have e : (corL s.P (latF s.P (-(t : Int))) 6).getD i 0 = corS s.P (latF s.P (-(t : Int))) ((i : Int) - (6 : Nat)) s.P.length := tab_getD _ _ _ hi
  rw [e]
  exact (corS_fx s.P (latF s.P (-(t : Int))) (padI s.l) (latI s.l t) ((i : Int) - 6) (by unfold latF latI; rw [tab_length]; simp; rfl) (fun k => s.pad h k) (fun k => latF_fx s h t ht k) 10 (by decide)).1
/-- The best shift: the trace's own, if there is any energy; else the first one. The value is the energy. -/
theorem best_is (s : Six) (h : s.ok) (t : Nat) (ht : t < 5) :
    ∃ o, bestF (corL s.P (latF s.P (-(t : Int))) 6) 13 = some o ∧ o < 13 ∧ Fx 4 ((corL s.P (latF s.P (-(t : Int))) 6).getD o 0) s.en ∧ (0 < s.en → o = t + 6) := by
  obtain ⟨o, h1, h2, h3, h4⟩ := bestF_is _ 4 (fun i => corI (padI s.l) (latI s.l t) ((i : Int) - 6) 10) 13 (fun i hi => corL_fx s h t ht i hi) 12 (by decide)
  have hv : ∀ i, i < 13 → _ := fun i hi => cor_at s.a s.b s.c s.d s.e s.f t i ht hi
  have hen : s.en = enI s.a s.b s.c s.d s.e s.f := rfl
  have hl : s.l = [s.a, s.b, s.c, s.d, s.e, s.f] := rfl
  rw [hl] at h3 h4
  have hm := hv (t + 6) (by omega)
  rw [if_pos rfl] at hm
  have key : ∀ i, i < 13 → i ≠ t + 6 → 0 < s.en → corI (padI [s.a, s.b, s.c, s.d, s.e, s.f]) (latI [s.a, s.b, s.c, s.d, s.e, s.f] t) ((i : Int) - 6) 10 < s.en := fun i hi hne hp => by
    rw [hv i hi, if_neg hne, hen]
    rw [hen] at hp
    have k1 := shift1 _ _ _ _ _ _ hp
    have k2 := shift2 _ _ _ _ _ _ hp
    have k3 := shift3 _ _ _ _ _ _ hp
    have k4 := shift4 _ _ _ _ _ _ hp
    have k5 := shift5 _ _ _ _ _ _ hp
    repeat' split
    all_goals first | exact k1 | exact k2 | exact k3 | exact k4 | exact k5 | exact hp
  by_cases hp : 0 < s.en
  · have ho : o = t + 6 := by
      by_cases he : o = t + 6
      · exact he
      · have a1 := key o (by omega) he hp
        have a2 := h3 (t + 6) (by omega)
        replace a2 : corI (padI [s.a, s.b, s.c, s.d, s.e, s.f]) (latI [s.a, s.b, s.c, s.d, s.e, s.f] t) (((t + 6 : Nat) : Int) - 6) 10 ≤ corI (padI [s.a, s.b, s.c, s.d, s.e, s.f]) (latI [s.a, s.b, s.c, s.d, s.e, s.f] t) ((o : Int) - 6) 10 := a2
        rw [hm] at a2
        rw [hen] at a1
        omega
    refine ⟨o, h1, by omega, ?_, fun _ => ho⟩
    have := corL_fx s h t ht o (by omega)
    rw [hl, ho, hm] at this
    rw [ho]
    exact this
  · refine ⟨o, h1, by omega, ?_, fun h => absurd h hp⟩
    have hnn := en_nn s.a s.b s.c s.d s.e s.f
    have he0 : s.en = 0 := by omega
    rw [he0]
    have hz : enI s.a s.b s.c s.d s.e s.f = 0 := he0
    unfold enI at hz
    have n1 := sq_nn s.a; have n2 := sq_nn s.b; have n3 := sq_nn s.c; have n4 := sq_nn s.d; have n5 := sq_nn s.e; have n6 := sq_nn s.f
    have za : s.a = 0 := sq_zero (by omega)
    have zb : s.b = 0 := sq_zero (by omega)
    have zc : s.c = 0 := sq_zero (by omega)
    have zd : s.d = 0 := sq_zero (by omega)
    have ze : s.e = 0 := sq_zero (by omega)
    have zf : s.f = 0 := sq_zero (by omega)
    have := corL_fx s h t ht o (by omega)
    rw [hl, hv o (by omega), za, zb, zc, zd, ze, zf] at this
    simpa [enI] using this
end Go.Proofs.Ythacadbdncfocaa
