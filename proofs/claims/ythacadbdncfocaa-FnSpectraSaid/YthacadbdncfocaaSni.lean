/- Walks: the program's sine. -/
import Derived.Test.YthacadbdncfocaaSne
import Derived.Test.YthacadbdncfocaaOwn
namespace Go.Proofs.Ythacadbdncfocaa
open Go Go.RowKit

theorem run_truncX (w : World) (x : Nat) (h : isN .f64 x = false) : (callFunc 107 #[.float .f64 x]).run Try.prog w = .ok (.value (.float .f64 (trnc x))) w := by
  have e : (callFunc 107 #[.float .f64 x]).run Try.prog w = (do pure (.value (← Extern.MathFloor.toIntegral "math.archTrunc" .zero #[.float .f64 x])) : Sem Next).run Try.prog w := by kernel_rfl
  rw [e, Sem.run_bind, run_trnc w x h]
  rfl
set_option maxRecDepth 100000 in
theorem mathTrunc_any (w : World) (x : Nat) (h : isN .f64 x = false) :
    Calls Try.prog 105 #[.float .f64 x] w fun e w' => e = .returned (.float .f64 (trnc x)) ∧ w' = w := by
  have h1 := run_truncX w x h
  clear h
  go_enter Try.func105, Try.ntmps105
  go_wp2
  go_ret
  exact ⟨rfl, rfl⟩
set_option maxRecDepth 100000 in
set_option maxHeartbeats 1600000 in
theorem fraction_fine (w : World) (t : Nat) (h : frcOk t = true) :
    Calls Try.prog 96 #[.float .f64 t] w fun e w' => e = .returned (.float .f64 (frcF t)) ∧ w' = w := by
  unfold frcOk at h
  simp only [Bool.and_eq_true, Bool.not_eq_true', Bool.or_eq_true] at h
  obtain ⟨n1, n2, n3⟩ := h
  have HT := Lib.hid (fun wq => mathTrunc_any wq t n1)
  have q1 := fun wq ty => run_fineK (P := Try.prog) .f64 .sub (by simp) wq ty t (whlF t) n2
  rw [show fop .sub .f64 t (whlF t) = frcD t from rfl] at q1
  have HF : Hid (frcF t = if ltB (frcD t) 0 then fop .add .f64 (frcD t) 4607182418800017408 else frcD t) := Lib.hid rfl
  have HW : Hid (whlF t = if eqB (trnc t) 0 then 0 else trnc t) := Lib.hid rfl
  clear n1 n2
  generalize frcD t = d at *
  generalize trnc t = tr at *
  generalize whlF t = wh at *
  have hlt : (FloatKind.f64.format.order d 0 == some Ordering.lt) = ltB d 0 := rfl
  have heq : (FloatKind.f64.format.order tr 0 == some Ordering.eq) = eqB tr 0 := rfl
  have q2 : ltB d 0 = true → ∀ wq ty, (binOp .add ty (.float .f64 d) (.float .f64 4607182418800017408)).run Try.prog wq = .ok (.float .f64 (fop .add .f64 d 4607182418800017408)) wq := fun hl => by
    rcases n3 with h | h
    · rw [hl] at h; cases h
    · exact fun wq ty => run_fineK (P := Try.prog) .f64 .add (by simp) wq ty _ _ h
  go_enter Try.func96, Try.ntmps96
  go_wp2_with fail
  refine (HT.out _).mono ?_
  rintro e w1 ⟨rfl, hw1⟩
  obtain rfl : w = w1 := hw1.symm
  clear hw1 HT n3
  cases h1 : eqB tr 0 <;> cases h2 : ltB d 0
  all_goals
    rw [h1] at heq HW
    rw [h2] at hlt HF
    replace HW := HW.out
    simp only [Bool.false_eq_true, if_false, if_true] at HW
    replace HF := HF.out
    simp only [Bool.false_eq_true, if_false, if_true] at HF
    subst HW
    try (have q3 := q2 h2)
    have HF := Lib.hid HF
    clear q2 h1 h2
    go_wp2_with fail
    go_ret
    exact ⟨by rw [HF.out]; rfl, rfl⟩
set_option maxRecDepth 100000 in
set_option maxHeartbeats 3200000 in
theorem sine_fine (w : World) (t : Nat) (h : frcOk t = true) (h2 : sinOk (frcF t) = true) :
    Calls Try.prog 95 #[.float .f64 t] w fun e w' => e = .returned (.float .f64 (sinF (frcF t))) ∧ w' = w := by
  have HFr := Lib.hid (fun wq => fraction_fine wq t h)
  clear h
  generalize frcF t = f at *
  unfold sinOk at h2
  simp only [Bool.and_eq_true, Bool.not_eq_true', Bool.or_eq_true, List.all_eq_true] at h2
  obtain ⟨n1, n2, n3, n4, n5, n6, n7⟩ := h2
  have q1 := fun wq ty => run_fineK (P := Try.prog) .f64 .mul (by simp) wq ty (snG f) 4618760256179416344 n4
  have q2 := fun wq ty => run_fineK (P := Try.prog) .f64 .mul (by simp) wq ty (snZ (snG f)) (snZ (snG f)) n5
  have q3 := fun wq ty => run_fineK (P := Try.prog) .f64 .mul (by simp) wq ty (snZ (snG f)) (polF (snU (snG f)) 8) n7
  rw [show fop .mul .f64 (snG f) 4618760256179416344 = snZ (snG f) from rfl] at q1
  rw [show fop .mul .f64 (snZ (snG f)) (snZ (snG f)) = snU (snG f) from rfl] at q2
  rw [show fop .mul .f64 (snZ (snG f)) (polF (snU (snG f)) 8) = snO (snG f) from rfl] at q3
  have HP := Lib.hid n6
  have HS : Hid (sinF f = if geB f 4602678819172646912 then ngF .f64 (snO (snG f)) else snO (snG f)) := Lib.hid rfl
  have HG : Hid (snG f = if gtB (snA f) 4598175219545276416 then fop .sub .f64 4602678819172646912 (snA f) else snA f) := Lib.hid rfl
  have HA : Hid (snA f = if geB f 4602678819172646912 then fop .sub .f64 f 4602678819172646912 else f) := Lib.hid rfl
  clear n4 n5 n6 n7
  generalize snO (snG f) = o at *
  generalize snU (snG f) = u at *
  generalize snZ (snG f) = z at *
  have hng : ∀ wq : World, (Op.unary .neg (.float .f64 o)).run Try.prog wq = .ok (.float .f64 (ngF .f64 o)) wq := fun wq => run_ngF .f64 wq o
  go_enter Try.func95, Try.ntmps95
  go_wp2_with fail
  refine (HFr.out _).mono ?_
  rintro e w1 ⟨rfl, hw1⟩
  obtain rfl : w = w1 := hw1.symm
  clear hw1 HFr
  have hge : (FloatKind.f64.format.order f 4602678819172646912 == some Ordering.gt || FloatKind.f64.format.order f 4602678819172646912 == some Ordering.eq) = geB f 4602678819172646912 := rfl
  have hgt : (FloatKind.f64.format.order (snA f) 4598175219545276416 == some Ordering.gt) = gtB (snA f) 4598175219545276416 := rfl
  have q4 : geB f 4602678819172646912 = true → ∀ wq ty, (binOp .sub ty (.float .f64 f) (.float .f64 4602678819172646912)).run Try.prog wq = .ok (.float .f64 (snA f)) wq := fun hl wq ty => by
    rw [HA.out, hl, if_pos rfl]
    exact run_fineK (P := Try.prog) .f64 .sub (by simp) wq ty _ _ (n2.resolve_left (by rw [hl]; decide))
  have q5 : gtB (snA f) 4598175219545276416 = true → ∀ wq ty, (binOp .sub ty (.float .f64 4602678819172646912) (.float .f64 (snA f))).run Try.prog wq = .ok (.float .f64 (snG f)) wq := fun hl wq ty => by
    rw [HG.out, hl, if_pos rfl]
    exact run_fineK (P := Try.prog) .f64 .sub (by simp) wq ty _ _ (n3.resolve_left (by rw [hl]; decide))
  have HA0 : geB f 4602678819172646912 = false → snA f = f := fun h => by rw [HA.out, h]; rfl
  have HG0 : gtB (snA f) 4598175219545276416 = false → snG f = snA f := fun h => by rw [HG.out, h]; rfl
  clear n1 n2 n3 HA HG
  have key : ∀ (wq : World) (x8 x30 : Value), True := fun _ _ _ => trivial
  clear key
  cases h1 : geB f 4602678819172646912 <;> cases h3 : gtB (snA f) 4598175219545276416
  all_goals
    rw [h1] at hge HS
    rw [h3] at hgt
    replace HS := HS.out
    simp only [Bool.false_eq_true, if_false, if_true] at HS
    have HS := Lib.hid HS
    first
      | (have a0 := HA0 h1; rw [a0] at hgt q5 HG0 h3; clear a0)
      | (have a1 := q4 h1; clear q4)
    first
      | (have g0 := HG0 h3; rw [g0] at q1; clear g0)
      | (have g1 := q5 h3; clear q5)
    try clear q4
    try clear q5
    clear HA0 HG0 h1 h3
    try generalize snG f = b at *
    try generalize snA f = a at *
    go_wp2_with fail
    go_loopw [7, 8] (fun p i wr => ∃ j : Nat, j ≤ 8 ∧ i = .int .i64 (8 - (j : Int)) ∧ p = .float .f64 (polF u j) ∧ wr = w) (fun _ i _ => (intOf i).toNat)
    case atStart => exact ⟨0, Nat.zero_le _, rfl, rfl, rfl⟩
    case round =>
      obtain ⟨j, hj, rfl, rfl, hwr⟩ := hrel
      obtain rfl : w = wr := hwr.symm
      clear hwr
      by_cases hlt : j < 8
      · have hpo := HP.out j (List.mem_range.2 hlt)
        unfold polOk at hpo
        simp only [Bool.and_eq_true, Bool.not_eq_true'] at hpo
        obtain ⟨p1, p2, p3⟩ := hpo
        have r1 := fun wq ty => run_fineK (P := Try.prog) .f64 .mul (by simp) wq ty u (polF u j) p1
        have r2 := fun wq ty => run_fineK (P := Try.prog) .f64 .quo (by simp) wq ty (polM u (polF u j)) _ p2
        have r3 := fun wq ty => run_fineK (P := Try.prog) .f64 .sub (by simp) wq ty 4607182418800017408 _ p3
        rw [show fop .mul .f64 u (polF u j) = polM u (polF u j) from rfl] at r1
        rw [show fop .quo .f64 (polM u (polF u j)) (floatOfInt .f64 (2 * ((8 - j : Nat) : Int) * (2 * ((8 - j : Nat) : Int) + 1))) = polQ u (polF u j) (8 - j) from rfl] at r2
        rw [show fop .sub .f64 4607182418800017408 (polQ u (polF u j) (8 - j)) = polF u (j + 1) from rfl] at r3
        obtain ⟨N, hN⟩ : ∃ N : Int, 2 * ((8 - j : Nat) : Int) * (2 * ((8 - j : Nat) : Int) + 1) = N := ⟨_, rfl⟩
        rw [hN] at r2
        obtain ⟨j1, hj1⟩ : ∃ j1, j + 1 = j1 := ⟨_, rfl⟩
        rw [hj1] at r3
        have HJ := Lib.hid hj1
        clear p1 p2 p3 hj1
        have hc : j = 0 ∨ j = 1 ∨ j = 2 ∨ j = 3 ∨ j = 4 ∨ j = 5 ∨ j = 6 ∨ j = 7 := by omega
        generalize polQ u (polF u j) (8 - j) = y2 at *
        generalize polM u (polF u j) = y1 at *
        obtain ⟨y3, hy3⟩ : ∃ y3, polF u j1 = y3 := ⟨_, rfl⟩
        obtain ⟨y0, hy0⟩ : ∃ y0, polF u j = y0 := ⟨_, rfl⟩
        rw [hy3] at r3
        rw [hy0] at r1
        rw [hy0]
        have HY := Lib.hid hy3
        clear hy0 hy3
        rcases hc with rfl | rfl | rfl | rfl | rfl | rfl | rfl | rfl
        all_goals
          simp at hN
          subst hN
          go_wp2_with fail
          have hj1 := HJ.out
          exact ⟨⟨j1, by omega, by congr 1; omega, by rw [HY.out], trivial⟩, by simp [intOf]⟩
      · obtain rfl : j = 8 := by omega
        go_wp2_with fail
        go_ret
        exact ⟨by rw [HS.out]; rfl, rfl⟩
end Go.Proofs.Ythacadbdncfocaa
