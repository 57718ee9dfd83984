/- Plain: a pilot of eight numbers at other times is most alike itself where it stands. -/
import Derived.Test.YthacadbdncfocaaPkQ
namespace Go.Proofs.Ythacadbdncfocaa
open Go


def en8 (a b c d e f g h : Int) : Int := a * a + b * b + c * c + d * d + e * e + f * f + g * g + h * h
theorem en8_nn (a b c d e f g h : Int) : 0 ≤ en8 a b c d e f g h := by
  unfold en8
  have n0 := sq_nn a
  have n1 := sq_nn b
  have n2 := sq_nn c
  have n3 := sq_nn d
  have n4 := sq_nn e
  have n5 := sq_nn f
  have n6 := sq_nn g
  have n7 := sq_nn h
  omega
theorem sh8_1 (a b c d e f g h : Int) (hE : 0 < en8 a b c d e f g h) : a * b + b * c + c * d + d * e + e * f + f * g + g * h < en8 a b c d e f g h := by
  unfold en8 at *
  have q0 := sq_two a b
  have q1 := sq_two b c
  have q2 := sq_two c d
  have q3 := sq_two d e
  have q4 := sq_two e f
  have q5 := sq_two f g
  have q6 := sq_two g h
  have n0 := sq_nn a
  have n7 := sq_nn h
  by_cases hc : a * b + b * c + c * d + d * e + e * f + f * g + g * h < a * a + b * b + c * c + d * d + e * e + f * f + g * g + h * h
  · exact hc
  · exfalso
    have z0 : a = 0 := sq_zero (by omega)
    subst z0
    simp only [Int.zero_mul, Int.mul_zero] at *
    have z1 : b = 0 := sq_zero (by omega)
    subst z1
    simp only [Int.zero_mul, Int.mul_zero] at *
    have z2 : c = 0 := sq_zero (by omega)
    subst z2
    simp only [Int.zero_mul, Int.mul_zero] at *
    have z3 : d = 0 := sq_zero (by omega)
    subst z3
    simp only [Int.zero_mul, Int.mul_zero] at *
    have z4 : e = 0 := sq_zero (by omega)
    subst z4
    simp only [Int.zero_mul, Int.mul_zero] at *
    have z5 : f = 0 := sq_zero (by omega)
    subst z5
    simp only [Int.zero_mul, Int.mul_zero] at *
    have z6 : g = 0 := sq_zero (by omega)
    subst z6
    simp only [Int.zero_mul, Int.mul_zero] at *
    have z7 : h = 0 := sq_zero (by omega)
    subst z7
    simp only [Int.zero_mul, Int.mul_zero] at *
    omega
theorem sh8_2 (a b c d e f g h : Int) (hE : 0 < en8 a b c d e f g h) : a * c + b * d + c * e + d * f + e * g + f * h < en8 a b c d e f g h := by
  unfold en8 at *
  have q0 := sq_two a c
  have q1 := sq_two b d
  have q2 := sq_two c e
  have q3 := sq_two d f
  have q4 := sq_two e g
  have q5 := sq_two f h
  have n0 := sq_nn a
  have n1 := sq_nn b
  have n6 := sq_nn g
  have n7 := sq_nn h
  by_cases hc : a * c + b * d + c * e + d * f + e * g + f * h < a * a + b * b + c * c + d * d + e * e + f * f + g * g + h * h
  · exact hc
  · exfalso
    have z0 : a = 0 := sq_zero (by omega)
    have z1 : b = 0 := sq_zero (by omega)
    subst z0 z1
    simp only [Int.zero_mul, Int.mul_zero] at *
    have z2 : c = 0 := sq_zero (by omega)
    have z3 : d = 0 := sq_zero (by omega)
    subst z2 z3
    simp only [Int.zero_mul, Int.mul_zero] at *
    have z4 : e = 0 := sq_zero (by omega)
    have z5 : f = 0 := sq_zero (by omega)
    subst z4 z5
    simp only [Int.zero_mul, Int.mul_zero] at *
    have z6 : g = 0 := sq_zero (by omega)
    have z7 : h = 0 := sq_zero (by omega)
    subst z6 z7
    simp only [Int.zero_mul, Int.mul_zero] at *
    omega
theorem sh8_3 (a b c d e f g h : Int) (hE : 0 < en8 a b c d e f g h) : a * d + b * e + c * f + d * g + e * h < en8 a b c d e f g h := by
  unfold en8 at *
  have q0 := sq_two a d
  have q1 := sq_two b e
  have q2 := sq_two c f
  have q3 := sq_two d g
  have q4 := sq_two e h
  have n0 := sq_nn a
  have n1 := sq_nn b
  have n2 := sq_nn c
  have n5 := sq_nn f
  have n6 := sq_nn g
  have n7 := sq_nn h
  by_cases hc : a * d + b * e + c * f + d * g + e * h < a * a + b * b + c * c + d * d + e * e + f * f + g * g + h * h
  · exact hc
  · exfalso
    have z0 : a = 0 := sq_zero (by omega)
    have z1 : b = 0 := sq_zero (by omega)
    have z2 : c = 0 := sq_zero (by omega)
    subst z0 z1 z2
    simp only [Int.zero_mul, Int.mul_zero] at *
    have z3 : d = 0 := sq_zero (by omega)
    have z4 : e = 0 := sq_zero (by omega)
    have z5 : f = 0 := sq_zero (by omega)
    subst z3 z4 z5
    simp only [Int.zero_mul, Int.mul_zero] at *
    have z6 : g = 0 := sq_zero (by omega)
    have z7 : h = 0 := sq_zero (by omega)
    subst z6 z7
    simp only [Int.zero_mul, Int.mul_zero] at *
    omega
theorem sh8_4 (a b c d e f g h : Int) (hE : 0 < en8 a b c d e f g h) : a * e + b * f + c * g + d * h < en8 a b c d e f g h := by
  unfold en8 at *
  have q0 := sq_two a e
  have q1 := sq_two b f
  have q2 := sq_two c g
  have q3 := sq_two d h
  have n0 := sq_nn a
  have n1 := sq_nn b
  have n2 := sq_nn c
  have n3 := sq_nn d
  have n4 := sq_nn e
  have n5 := sq_nn f
  have n6 := sq_nn g
  have n7 := sq_nn h
  omega
theorem sh8_5 (a b c d e f g h : Int) (hE : 0 < en8 a b c d e f g h) : a * f + b * g + c * h < en8 a b c d e f g h := by
  unfold en8 at *
  have q0 := sq_two a f
  have q1 := sq_two b g
  have q2 := sq_two c h
  have n0 := sq_nn a
  have n1 := sq_nn b
  have n2 := sq_nn c
  have n3 := sq_nn d
  have n4 := sq_nn e
  have n5 := sq_nn f
  have n6 := sq_nn g
  have n7 := sq_nn h
  omega
theorem sh8_6 (a b c d e f g h : Int) (hE : 0 < en8 a b c d e f g h) : a * g + b * h < en8 a b c d e f g h := by
  unfold en8 at *
  have q0 := sq_two a g
  have q1 := sq_two b h
  have n0 := sq_nn a
  have n1 := sq_nn b
  have n2 := sq_nn c
  have n3 := sq_nn d
  have n4 := sq_nn e
  have n5 := sq_nn f
  have n6 := sq_nn g
  have n7 := sq_nn h
  omega
theorem sh8_7 (a b c d e f g h : Int) (hE : 0 < en8 a b c d e f g h) : a * h < en8 a b c d e f g h := by
  unfold en8 at *
  have q0 := sq_two a h
  have n0 := sq_nn a
  have n1 := sq_nn b
  have n2 := sq_nn c
  have n3 := sq_nn d
  have n4 := sq_nn e
  have n5 := sq_nn f
  have n6 := sq_nn g
  have n7 := sq_nn h
  omega
def pilI (l : List Int) : List Int := [0, 0, 0, 0] ++ l ++ [0, 0, 0, 0]
/-- A pilot at other times: t - 3 later. -/
def trcI (l : List Int) (t : Nat) : List Int := (List.range 16).map fun k => if t ≤ k + 3 then (pilI l).getD (k + 3 - t) 0 else 0
set_option maxHeartbeats 4000000 in
theorem cor8_at (a b c d e f g h : Int) (t i : Nat) (ht : t < 7) (hi : i < 9) :
    corI (pilI [a, b, c, d, e, f, g, h]) (trcI [a, b, c, d, e, f, g, h] t) ((i : Int) - 4) 16 = (if i = t + 1 then en8 a b c d e f g h else if i = t + 2 ∨ i + 1 = t + 1 then a * b + b * c + c * d + d * e + e * f + f * g + g * h else if i = t + 3 ∨ i + 2 = t + 1 then a * c + b * d + c * e + d * f + e * g + f * h else if i = t + 4 ∨ i + 3 = t + 1 then a * d + b * e + c * f + d * g + e * h else if i = t + 5 ∨ i + 4 = t + 1 then a * e + b * f + c * g + d * h else if i = t + 6 ∨ i + 5 = t + 1 then a * f + b * g + c * h else if i = t + 7 ∨ i + 6 = t + 1 then a * g + b * h else if i = t + 8 ∨ i + 7 = t + 1 then a * h else 0) := by
  have ht' : t = 0 ∨ t = 1 ∨ t = 2 ∨ t = 3 ∨ t = 4 ∨ t = 5 ∨ t = 6 := by omega
  have hi' : i = 0 ∨ i = 1 ∨ i = 2 ∨ i = 3 ∨ i = 4 ∨ i = 5 ∨ i = 6 ∨ i = 7 ∨ i = 8 := by omega
  rcases ht' with rfl | rfl | rfl | rfl | rfl | rfl | rfl <;> rcases hi' with rfl | rfl | rfl | rfl | rfl | rfl | rfl | rfl | rfl <;>
    simp [corI, pilI, trcI, inB, en8, List.range, List.range.loop, Int.mul_comm] <;> omega
/-- Eight drawn numbers. -/
structure Eight where
  a : Int
  b : Int
  c : Int
  d : Int
  e : Int
  f : Int
  g : Int
  h : Int
def Eight.l (s : Eight) : List Int := [s.a, s.b, s.c, s.d, s.e, s.f, s.g, s.h]
def Eight.ok (s : Eight) : Prop := ∀ z ∈ s.l, -8 ≤ z ∧ z ≤ 8
/-- The pilot. -/
def Eight.P (s : Eight) : List Nat := [0, 0, 0, 0] ++ s.l.map qv ++ [0, 0, 0, 0]
/-- The trace: the pilot t - 3 later. -/
def Eight.T (s : Eight) (t : Nat) : List Nat := tab (fun k => if t ≤ k + 3 then s.P.getD (k + 3 - t) 0 else 0) 16
def Eight.en (s : Eight) : Int := en8 s.a s.b s.c s.d s.e s.f s.g s.h
theorem Eight.pil (s : Eight) (h : s.ok) (k : Nat) : Fx 2 (s.P.getD k 0) ((pilI s.l).getD k 0) ∧ -8 ≤ (pilI s.l).getD k 0 ∧ (pilI s.l).getD k 0 ≤ 8 := by
  have key : ∀ z, z ∈ s.l → Fx 2 (qv z) z ∧ -8 ≤ z ∧ z ≤ 8 := fun z hz => ⟨(qv_fx z (h z hz).1 (h z hz).2).1, h z hz⟩
  have z0 : Fx 2 0 0 ∧ (-8 : Int) ≤ 0 ∧ (0 : Int) ≤ 8 := ⟨Fx.zero 2, by decide, by decide⟩
  obtain ⟨a, b, c, d, e, f, g, h'⟩ := s
  match k with
  | 0 => exact z0
  | 1 => exact z0
  | 2 => exact z0
  | 3 => exact z0
  | 4 => exact key a (by simp [Eight.l])
  | 5 => exact key b (by simp [Eight.l])
  | 6 => exact key c (by simp [Eight.l])
  | 7 => exact key d (by simp [Eight.l])
  | 8 => exact key e (by simp [Eight.l])
  | 9 => exact key f (by simp [Eight.l])
  | 10 => exact key g (by simp [Eight.l])
  | 11 => exact key h' (by simp [Eight.l])
  | 12 => exact z0
  | 13 => exact z0
  | 14 => exact z0
  | 15 => exact z0
  | k + 16 => exact z0
theorem Eight.trc (s : Eight) (h : s.ok) (t : Nat) (k : Nat) : Fx 2 ((s.T t).getD k 0) ((trcI s.l t).getD k 0) ∧ -8 ≤ (trcI s.l t).getD k 0 ∧ (trcI s.l t).getD k 0 ≤ 8 := by
  have z0 : Fx 2 0 0 ∧ (-8 : Int) ≤ 0 ∧ (0 : Int) ≤ 8 := ⟨Fx.zero 2, by decide, by decide⟩
  by_cases hk : k < 16
  · have e1 : (s.T t).getD k 0 = if t ≤ k + 3 then s.P.getD (k + 3 - t) 0 else 0 := tab_getD _ _ _ hk
    have e2 : (trcI s.l t).getD k 0 = if t ≤ k + 3 then (pilI s.l).getD (k + 3 - t) 0 else 0 := by
      simp [trcI, List.getD_eq_getElem?_getD, List.getElem?_map, List.getElem?_range hk]
    rw [e1, e2]
    split
    · exact s.pil h _
    · exact z0
  · have e1 : (s.T t).getD k 0 = 0 := by
      rw [List.getD_eq_getElem?_getD, List.getElem?_eq_none (by unfold Eight.T; rw [tab_length]; omega)]; rfl
    have e2 : (trcI s.l t).getD k 0 = 0 := by
      rw [List.getD_eq_getElem?_getD, List.getElem?_eq_none (by simp [trcI]; omega)]; rfl
    rw [e1, e2]
    exact z0
theorem cor8_fx (s : Eight) (h : s.ok) (t : Nat) (i : Nat) (hi : i < 9) :
    Fx 4 ((corL s.P (s.T t) 4).getD i 0) (corI (pilI s.l) (trcI s.l t) ((i : Int) - 4) 16) := by
  have e : (corL s.P (s.T t) 4).getD i 0 = corS s.P (s.T t) ((i : Int) - (4 : Nat)) s.P.length := tab_getD _ _ _ hi
  rw [e]
  exact (corS_fx s.P (s.T t) (pilI s.l) (trcI s.l t) ((i : Int) - 4) (by unfold Eight.T trcI; rw [tab_length]; simp) (fun k => s.pil h k) (fun k => s.trc h t k) 16 (by decide)).1
/-- The best shift: the trace's own, if there is any power; else the first one. -/
theorem best8_is (s : Eight) (h : s.ok) (t : Nat) (ht : t < 7) :
    ∃ o, bestF (corL s.P (s.T t) 4) 9 = some o ∧ o < 9 ∧ (0 < s.en → o = t + 1) ∧ (s.en = 0 → o = 0) := by
  obtain ⟨o, h1, h2, h3, h4⟩ := bestF_is _ 4 (fun i => corI (pilI s.l) (trcI s.l t) ((i : Int) - 4) 16) 9 (fun i hi => cor8_fx s h t i hi) 8 (by decide)
  have hv : ∀ i, i < 9 → _ := fun i hi => cor8_at s.a s.b s.c s.d s.e s.f s.g s.h t i ht hi
  have hen : s.en = en8 s.a s.b s.c s.d s.e s.f s.g s.h := rfl
  have hl : s.l = [s.a, s.b, s.c, s.d, s.e, s.f, s.g, s.h] := rfl
  rw [hl] at h3 h4
  have hm := hv (t + 1) (by omega)
  rw [if_pos rfl] at hm
  refine ⟨o, h1, by omega, fun hp => ?_, fun hz => ?_⟩
  · by_cases he : o = t + 1
    · exact he
    · have a2 : corI (pilI [s.a, s.b, s.c, s.d, s.e, s.f, s.g, s.h]) (trcI [s.a, s.b, s.c, s.d, s.e, s.f, s.g, s.h] t) (((t + 1 : Nat) : Int) - 4) 16 ≤ corI (pilI [s.a, s.b, s.c, s.d, s.e, s.f, s.g, s.h]) (trcI [s.a, s.b, s.c, s.d, s.e, s.f, s.g, s.h] t) ((o : Int) - 4) 16 := h3 (t + 1) (by omega)
      rw [hm, hv o (by omega), if_neg he] at a2
      rw [hen] at hp
      have k1 := sh8_1 _ _ _ _ _ _ _ _ hp
      have k2 := sh8_2 _ _ _ _ _ _ _ _ hp
      have k3 := sh8_3 _ _ _ _ _ _ _ _ hp
      have k4 := sh8_4 _ _ _ _ _ _ _ _ hp
      have k5 := sh8_5 _ _ _ _ _ _ _ _ hp
      have k6 := sh8_6 _ _ _ _ _ _ _ _ hp
      have k7 := sh8_7 _ _ _ _ _ _ _ _ hp
      exfalso
      generalize en8 s.a s.b s.c s.d s.e s.f s.g s.h = E at *
      repeat' split at a2
      all_goals omega
  · have hz2 : en8 s.a s.b s.c s.d s.e s.f s.g s.h = 0 := hz
    unfold en8 at hz2
    have n1 := sq_nn s.a; have n2 := sq_nn s.b; have n3 := sq_nn s.c; have n4 := sq_nn s.d; have n5 := sq_nn s.e; have n6 := sq_nn s.f; have n7 := sq_nn s.g; have n8 := sq_nn s.h
    have za : s.a = 0 := sq_zero (by omega)
    have zb : s.b = 0 := sq_zero (by omega)
    have zc : s.c = 0 := sq_zero (by omega)
    have zd : s.d = 0 := sq_zero (by omega)
    have ze : s.e = 0 := sq_zero (by omega)
    have zf : s.f = 0 := sq_zero (by omega)
    have zg : s.g = 0 := sq_zero (by omega)
    have zh : s.h = 0 := sq_zero (by omega)
    have all0 : ∀ i : Nat, i < 9 → corI (pilI [s.a, s.b, s.c, s.d, s.e, s.f, s.g, s.h]) (trcI [s.a, s.b, s.c, s.d, s.e, s.f, s.g, s.h] t) ((i : Int) - 4) 16 = 0 := fun i hi => by
      rw [hv i hi, za, zb, zc, zd, ze, zf, zg, zh]
      simp [en8]
    by_cases ho : o = 0
    · exact ho
    · exfalso
      have b1 : corI (pilI [s.a, s.b, s.c, s.d, s.e, s.f, s.g, s.h]) (trcI [s.a, s.b, s.c, s.d, s.e, s.f, s.g, s.h] t) (((0 : Nat) : Int) - 4) 16 < corI (pilI [s.a, s.b, s.c, s.d, s.e, s.f, s.g, s.h]) (trcI [s.a, s.b, s.c, s.d, s.e, s.f, s.g, s.h] t) ((o : Int) - 4) 16 := h4 0 (by omega)
      rw [all0 0 (by decide), all0 o (by omega)] at b1
      omega
end Go.Proofs.Ythacadbdncfocaa
