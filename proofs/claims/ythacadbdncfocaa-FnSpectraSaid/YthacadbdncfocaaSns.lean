/- Walks: the reference's sine. -/
import Derived.Test.YthacadbdncfocaaSni
namespace Go.Proofs.Ythacadbdncfocaa
open Go Go.RowKit

def leB (x y : Nat) : Bool := ltB x y || eqB x y
/-- What is left of whole turns: the reference's. -/
def frS0 (y : Nat) : Nat := fop .sub .f64 y (floatOfInt .f64 (toI .f64 y))
def frS (y : Nat) : Nat := if ltB (frS0 y) 0 then fop .add .f64 (frS0 y) 4607182418800017408 else frS0 y
def frSOk (y : Nat) : Bool := !isN .f64 (fop .sub .f64 y y) && (eqB (fop .sub .f64 y y) 0 && (!geB y 4841369599423283200 && (!leB y 14064741636278059008 && (toIOk .f64 y && (!isN .f64 (frS0 y) && (!ltB (frS0 y) 0 || !isN .f64 (fop .add .f64 (frS0 y) 4607182418800017408)))))))
set_option maxRecDepth 100000 in
set_option maxHeartbeats 3200000 in
theorem sineW_fine (w : World) (y : Nat) (h : frSOk y = true) (h2 : sinOk (frS y) = true) :
    Calls Try.prog 93 #[.float .f64 y] w fun e w' => e = .returned (.float .f64 (sinF (frS y))) ∧ w' = w := by
  unfold frSOk at h
  simp only [Bool.and_eq_true, Bool.not_eq_true', Bool.or_eq_true] at h
  obtain ⟨m1, m2, m3, m4, m5, m6, m7⟩ := h
  have k1 := fun wq ty => run_fineK (P := Try.prog) .f64 .sub (by simp) wq ty y y m1
  have k2 : (FloatKind.f64.format.order (fop .sub .f64 y y) 0 != some Ordering.eq) = false := by
    have : (FloatKind.f64.format.order (fop .sub .f64 y y) 0 == some Ordering.eq) = true := m2
    rw [bne, this]; rfl
  have k3 : (FloatKind.f64.format.order y 4841369599423283200 == some Ordering.gt || FloatKind.f64.format.order y 4841369599423283200 == some Ordering.eq) = false := m3
  have k4 : (FloatKind.f64.format.order y 14064741636278059008 == some Ordering.lt || FloatKind.f64.format.order y 14064741636278059008 == some Ordering.eq) = false := m4
  have k5 := fun wq => run_toI (P := Try.prog) 40 2 (by kernel_rfl) (by kernel_rfl) wq .f64 y m5
  have k6 := fun wq ty => run_fineK (P := Try.prog) .f64 .sub (by simp) wq ty y (floatOfInt .f64 (toI .f64 y)) m6
  rw [show fop .sub .f64 y (floatOfInt .f64 (toI .f64 y)) = frS0 y from rfl] at k6
  have k7 : (FloatKind.f64.format.order (frS0 y) 0 == some Ordering.lt) = ltB (frS0 y) 0 := rfl
  have k8 : ltB (frS0 y) 0 = true → ∀ wq ty, (binOp .add ty (.float .f64 (frS0 y)) (.float .f64 4607182418800017408)).run Try.prog wq = .ok (.float .f64 (frS y)) wq := fun hl wq ty => by
    unfold frS
    rw [hl, if_pos rfl]
    exact run_fineK (P := Try.prog) .f64 .add (by simp) wq ty _ _ (m7.resolve_left (by rw [hl]; decide))
  have k9 : ltB (frS0 y) 0 = false → frS0 y = frS y := fun h => by unfold frS; rw [h]; rfl
  clear m1 m2 m3 m4 m5 m6 m7
  generalize fop .sub .f64 y y = y0 at *
  generalize toI .f64 y = yi at *
  generalize frS y = f at *
  generalize frS0 y = f0 at *
  obtain ⟨lb, hlb⟩ : ∃ b, ltB f0 0 = b := ⟨_, rfl⟩
  rw [hlb] at k7 k8 k9
  clear hlb
  unfold sinOk at h2
  simp only [Bool.and_eq_true, Bool.not_eq_true', Bool.or_eq_true, List.all_eq_true] at h2
  obtain ⟨n1, n2, n3, n4, n5, n6, n7⟩ := h2
  have q1 := fun wq ty => run_fineK (P := Try.prog) .f64 .mul (by simp) wq ty (snG f) 4618760256179416344 n4
  have q2 := fun wq ty => run_fineK (P := Try.prog) .f64 .mul (by simp) wq ty (snZ (snG f)) (snZ (snG f)) n5
  have q3 := fun wq ty => run_fineK (P := Try.prog) .f64 .mul (by simp) wq ty (snZ (snG f)) (polF (snU (snG f)) 8) n7
  rw [show fop .mul .f64 (snG f) 4618760256179416344 = snZ (snG f) from rfl] at q1
  rw [show fop .mul .f64 (snZ (snG f)) (snZ (snG f)) = snU (snG f) from rfl] at q2
  rw [show fop .mul .f64 (snZ (snG f)) (polF (snU (snG f)) 8) = snO (snG f) from rfl] at q3
  have HP := Lib.hid n6
  have HS : Hid (sinF f = if geB f 4602678819172646912 then ngF .f64 (snO (snG f)) else snO (snG f)) := Lib.hid rfl
  have HG : Hid (snG f = if gtB (snA f) 4598175219545276416 then fop .sub .f64 4602678819172646912 (snA f) else snA f) := Lib.hid rfl
  have HA : Hid (snA f = if geB f 4602678819172646912 then fop .sub .f64 f 4602678819172646912 else f) := Lib.hid rfl
  clear n4 n5 n6 n7
  generalize snO (snG f) = o at *
  generalize snU (snG f) = u at *
  generalize snZ (snG f) = z at *
  have hng : ∀ wq : World, (Op.unary .neg (.float .f64 o)).run Try.prog wq = .ok (.float .f64 (ngF .f64 o)) wq := fun wq => run_ngF .f64 wq o
  have hge : (FloatKind.f64.format.order f 4602678819172646912 == some Ordering.gt || FloatKind.f64.format.order f 4602678819172646912 == some Ordering.eq) = geB f 4602678819172646912 := rfl
  have hgt : (FloatKind.f64.format.order (snA f) 4598175219545276416 == some Ordering.gt) = gtB (snA f) 4598175219545276416 := rfl
  have q4 : geB f 4602678819172646912 = true → ∀ wq ty, (binOp .sub ty (.float .f64 f) (.float .f64 4602678819172646912)).run Try.prog wq = .ok (.float .f64 (snA f)) wq := fun hl wq ty => by
    rw [HA.out, hl, if_pos rfl]
    exact run_fineK (P := Try.prog) .f64 .sub (by simp) wq ty _ _ (n2.resolve_left (by rw [hl]; decide))
  have q5 : gtB (snA f) 4598175219545276416 = true → ∀ wq ty, (binOp .sub ty (.float .f64 4602678819172646912) (.float .f64 (snA f))).run Try.prog wq = .ok (.float .f64 (snG f)) wq := fun hl wq ty => by
    rw [HG.out, hl, if_pos rfl]
    exact run_fineK (P := Try.prog) .f64 .sub (by simp) wq ty _ _ (n3.resolve_left (by rw [hl]; decide))
  have HA0 : geB f 4602678819172646912 = false → snA f = f := fun h => by rw [HA.out, h]; rfl
  have HG0 : gtB (snA f) 4598175219545276416 = false → snG f = snA f := fun h => by rw [HG.out, h]; rfl
  clear n1 n2 n3 HA HG
  cases h1 : geB f 4602678819172646912 <;> cases h3 : gtB (snA f) 4598175219545276416 <;> cases lb
  all_goals
    first
      | (have e0 := k9 rfl; obtain rfl : f = f0 := e0.symm; clear e0 k8 k9)
      | (have k10 := k8 rfl; clear k8 k9)
    rw [h1] at hge HS
    rw [h3] at hgt
    replace HS := HS.out
    simp only [Bool.false_eq_true, if_false, if_true] at HS
    have HS := Lib.hid HS
    first
      | (have a0 := HA0 h1; rw [a0] at hgt q5 HG0 h3; clear a0)
      | (have a1 := q4 h1; clear q4)
    first
      | (have g0 := HG0 h3; rw [g0] at q1; clear g0)
      | (have g1 := q5 h3; clear q5)
    try clear q4
    try clear q5
    clear HA0 HG0 h1 h3
    try generalize snG f = b at *
    try generalize snA f = a at *
    go_enter Try.func93, Try.ntmps93
    go_wp2_with fail
    go_loopw [7, 8] (fun p i wr => ∃ j : Nat, j ≤ 8 ∧ i = .int .i64 (8 - (j : Int)) ∧ p = .float .f64 (polF u j) ∧ wr = w) (fun _ i _ => (intOf i).toNat)
    case atStart => exact ⟨0, Nat.zero_le _, rfl, rfl, rfl⟩
    case round =>
      obtain ⟨j, hj, rfl, rfl, hwr⟩ := hrel
      obtain rfl : w = wr := hwr.symm
      clear hwr
      by_cases hlt : j < 8
      · have hpo := HP.out j (List.mem_range.2 hlt)
        unfold polOk at hpo
        simp only [Bool.and_eq_true, Bool.not_eq_true'] at hpo
        obtain ⟨p1, p2, p3⟩ := hpo
        have r1 := fun wq ty => run_fineK (P := Try.prog) .f64 .mul (by simp) wq ty u (polF u j) p1
        have r2 := fun wq ty => run_fineK (P := Try.prog) .f64 .quo (by simp) wq ty (polM u (polF u j)) _ p2
        have r3 := fun wq ty => run_fineK (P := Try.prog) .f64 .sub (by simp) wq ty 4607182418800017408 _ p3
        rw [show fop .mul .f64 u (polF u j) = polM u (polF u j) from rfl] at r1
        rw [show fop .quo .f64 (polM u (polF u j)) (floatOfInt .f64 (2 * ((8 - j : Nat) : Int) * (2 * ((8 - j : Nat) : Int) + 1))) = polQ u (polF u j) (8 - j) from rfl] at r2
        rw [show fop .sub .f64 4607182418800017408 (polQ u (polF u j) (8 - j)) = polF u (j + 1) from rfl] at r3
        obtain ⟨N, hN⟩ : ∃ N : Int, 2 * ((8 - j : Nat) : Int) * (2 * ((8 - j : Nat) : Int) + 1) = N := ⟨_, rfl⟩
        rw [hN] at r2
        obtain ⟨j1, hj1⟩ : ∃ j1, j + 1 = j1 := ⟨_, rfl⟩
        rw [hj1] at r3
        have HJ := Lib.hid hj1
        clear p1 p2 p3 hj1
        have hc : j = 0 ∨ j = 1 ∨ j = 2 ∨ j = 3 ∨ j = 4 ∨ j = 5 ∨ j = 6 ∨ j = 7 := by omega
        generalize polQ u (polF u j) (8 - j) = y2 at *
        generalize polM u (polF u j) = y1 at *
        obtain ⟨y3, hy3⟩ : ∃ y3, polF u j1 = y3 := ⟨_, rfl⟩
        obtain ⟨y0, hy0⟩ : ∃ y0, polF u j = y0 := ⟨_, rfl⟩
        rw [hy3] at r3
        rw [hy0] at r1
        rw [hy0]
        have HY := Lib.hid hy3
        clear hy0 hy3
        rcases hc with rfl | rfl | rfl | rfl | rfl | rfl | rfl | rfl
        all_goals
          simp at hN
          subst hN
          go_wp2_with fail
          have hj1 := HJ.out
          exact ⟨⟨j1, by omega, by congr 1; omega, by rw [HY.out], trivial⟩, by simp [intOf]⟩
      · obtain rfl : j = 8 := by omega
        go_wp2_with fail
        go_ret
        exact ⟨by rw [HS.out]; rfl, rfl⟩
end Go.Proofs.Ythacadbdncfocaa
