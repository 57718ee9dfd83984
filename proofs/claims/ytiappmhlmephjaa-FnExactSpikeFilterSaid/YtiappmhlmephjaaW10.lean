/- Walks: ShapeFilter, SpikeFilter, of the program and of the reference. -/
import Derived.Test.YtiappmhlmephjaaRet
import Derived.Test.YtiappmhlmephjaaW6
import Derived.Test.YtiappmhlmephjaaW9
namespace Go.Proofs.Ytiappmhlmephjaa
open Go Go.RowKit

def shapeM (A B : List Nat) (n : Int) (x : Nat) : Option (List Nat) :=
  if 1 ≤ A.length ∧ A.length ≤ 128 ∧ 1 ≤ B.length ∧ B.length ≤ 128 ∧ 1 ≤ n ∧ n ≤ 24 ∧ nonnegB x = true then solveM (whiteM (crossM A A n.toNat) x) (crossM B A n.toNat) else none
theorem shapeM_length (A B : List Nat) (n : Int) (x : Nat) : ((shapeM A B n x).getD []).length ≤ 25 := by
  unfold shapeM
  split
  · exact solveM_len' _ _ (by rw [whiteM_length, crossM_length]; omega)
  · simp

set_option maxRecDepth 100000 in
set_option maxHeartbeats 2000000 in
theorem implShapeFilter_any (w : World) (va vb : Value) (A B : List Nat) (n : Int) (r x : Nat) (hA : RdF w va A) (hB : RdF w vb B) (hr : FV .f32 r x) (hmA : A.length ≤ 1048576) (hmB : B.length ≤ 1048576) :
    Calls Try.prog 16 #[va, vb, .int .i64 n, .float .f32 r] w (RetF w (shapeM A B n x)) := by
  have hA' := hA
  have hB' := hB
  obtain ⟨a, ca, rfl, hca, -, -⟩ := hA.opened
  obtain ⟨b, cb, rfl, hcb, -, -⟩ := hB.opened
  clear hA hB
  by_cases h1 : 1 ≤ A.length
  · by_cases h2 : A.length ≤ 128
    · by_cases h3 : 1 ≤ B.length
      · by_cases h4 : B.length ≤ 128
        · by_cases h5 : 1 ≤ n
          · by_cases h6 : n ≤ 24
            · cases h7 : nonnegB x with
              | false =>
                have hm : shapeM A B n x = none := by unfold shapeM; rw [if_neg (fun h => by simp [h7] at h)]
                rw [hm]
                clear hm
                go_enter Try.func16, Try.ntmps16
                go_wp2_with (first | (go_at_call 33; go_must (refine (isNonNegative_any _ _ x hr).mono ?_); rintro e w1 ⟨rfl, n1, hw1⟩; rw [h7]; have hb1 : Below w.heap.size w w1 := (by rw [hw1]; exact Below.drewN (Below.refl _ _) _); have hA1 := hA'.mono hb1; have hB1 := hB'.mono hb1; clear hw1 hA' hB') | (go_at_call 32; go_in) | (go_at_call 31; go_in) | (go_at_call 65; go_in) | (go_at_call 67; go_in) | (go_at_call 66; go_in))
                go_ret2
                exact RetF.none hb1
              | true =>
                obtain ⟨m, rfl⟩ : ∃ m : Nat, n = m := ⟨n.toNat, by omega⟩
                have hm : shapeM A B m x = solveM (whiteM (crossM A A m) x) (crossM B A m) := by unfold shapeM; rw [if_pos ⟨h1, h2, h3, h4, h5, h6, h7⟩]; rfl
                rw [hm]
                clear hm
                go_enter Try.func16, Try.ntmps16
                go_wp2_with (first | (go_at_call 33; go_must (refine (isNonNegative_any _ _ x hr).mono ?_); rintro e w1 ⟨rfl, n1, hw1⟩; rw [h7]; have hb1 : Below w.heap.size w w1 := (by rw [hw1]; exact Below.drewN (Below.refl _ _) _); have hA1 := hA'.mono hb1; have hB1 := hB'.mono hb1; clear hw1 hA' hB') | (go_at_call 34; fail) | (go_at_call 32; go_in) | (go_at_call 31; go_in) | (go_at_call 65; go_in) | (go_at_call 67; go_in) | (go_at_call 66; go_in))
                refine (auto_any _ _ A m hA1 (by omega) (by omega)).mono ?_
                rintro e2 w2 ⟨v2, rfl, o2, b2⟩
                have hb2 := hb1.trans (b2.mono hb1.size)
                have hA2 := hA1.mono b2
                have hB2 := hB1.mono b2
                have hs2 := hb2.size
                clear hA1 hB1 b2 hb1
                go_wp2_with fail
                refine (whitened_any _ _ (crossM A A m) _ x o2.rd (by rw [crossM_length]; omega) (by rw [crossM_length]; omega) hr).mono ?_
                rintro e3 w3 ⟨v3, rfl, o3, b3⟩
                have hb3 := hb2.trans (b3.mono hs2)
                have hA3 := hA2.mono b3
                have hB3 := hB2.mono b3
                have hs3 := hb3.size
                clear hA2 hB2 b3 hb2 o2
                go_wp2_with fail
                refine (cross_any _ _ _ B A m hB3 hA3 (by omega) (by omega) (by omega)).mono ?_
                rintro e4 w4 ⟨v4, rfl, o4, b4⟩
                have hb4 := hb3.trans (b4.mono hs3)
                have o34 := o3.kept b4
                have hs4 := hb4.size
                clear hA3 hB3 b4 hb3 o3
                go_wp2_with fail
                refine (solve_any _ _ _ (whiteM (crossM A A m) x) (crossM B A m) o34.rd o4.rd (by rw [whiteM_length, crossM_length]; omega) (by rw [whiteM_length, crossM_length, crossM_length]) (by rw [whiteM_length, crossM_length]; omega)).mono ?_
                rintro e5 w5 ⟨v, ok, rfl, h8, h9⟩
                go_wp2
                go_ret2
                exact RetF.mk (h8.lower hs4) (hb4.trans (h9.mono hs4))
            · have hm : shapeM A B n x = none := by unfold shapeM; rw [if_neg (fun h => h6 h.2.2.2.2.2.1)]
              rw [hm]
              clear hm
              go_enter Try.func16, Try.ntmps16
              go_wp2
              go_ret2
              exact RetF.none (Below.refl _ _)
          · have hm : shapeM A B n x = none := by unfold shapeM; rw [if_neg (fun h => h5 h.2.2.2.2.1)]
            rw [hm]
            clear hm
            go_enter Try.func16, Try.ntmps16
            go_wp2
            go_ret2
            exact RetF.none (Below.refl _ _)
        · have hm : shapeM A B n x = none := by unfold shapeM; rw [if_neg (fun h => h4 h.2.2.2.1)]
          rw [hm]
          clear hm
          go_enter Try.func16, Try.ntmps16
          go_wp2
          go_ret2
          exact RetF.none (Below.refl _ _)
      · have hm : shapeM A B n x = none := by unfold shapeM; rw [if_neg (fun h => h3 h.2.2.1)]
        rw [hm]
        clear hm
        go_enter Try.func16, Try.ntmps16
        go_wp2
        go_ret2
        exact RetF.none (Below.refl _ _)
    · have hm : shapeM A B n x = none := by unfold shapeM; rw [if_neg (fun h => h2 h.2.1)]
      rw [hm]
      clear hm
      go_enter Try.func16, Try.ntmps16
      go_wp2
      go_ret2
      exact RetF.none (Below.refl _ _)
  · have hm : shapeM A B n x = none := by unfold shapeM; rw [if_neg (fun h => h1 h.1)]
    rw [hm]
    clear hm
    go_enter Try.func16, Try.ntmps16
    go_wp2
    go_ret2
    exact RetF.none (Below.refl _ _)

set_option maxRecDepth 100000 in
set_option maxHeartbeats 2000000 in
theorem l05Shape_any (w : World) (va vb : Value) (A B : List Nat) (n : Int) (r x : Nat) (hA : RdF w va A) (hB : RdF w vb B) (hr : FV .f32 r x) (hmA : A.length ≤ 1048576) (hmB : B.length ≤ 1048576) :
    Calls Try.prog 38 #[va, vb, .int .i64 n, .float .f32 r] w (RetF w (shapeM A B n x)) := by
  have hA' := hA
  have hB' := hB
  obtain ⟨a, ca, rfl, hca, -, -⟩ := hA.opened
  obtain ⟨b, cb, rfl, hcb, -, -⟩ := hB.opened
  clear hA hB
  by_cases h1 : 1 ≤ A.length
  · by_cases h2 : A.length ≤ 128
    · by_cases h3 : 1 ≤ B.length
      · by_cases h4 : B.length ≤ 128
        · by_cases h5 : 1 ≤ n
          · by_cases h6 : n ≤ 24
            · cases h7 : nonnegB x with
              | false =>
                have hm : shapeM A B n x = none := by unfold shapeM; rw [if_neg (fun h => by simp [h7] at h)]
                rw [hm]
                clear hm
                go_enter Try.func38, Try.ntmps38
                go_wp2_with (first | (go_at_call 61; go_must (refine (l05Near_any _ _ x hr).mono ?_); rintro e w1 ⟨rfl, n1, hw1⟩; rw [h7]; have hb1 : Below w.heap.size w w1 := (by rw [hw1]; exact Below.drewN (Below.refl _ _) _); have hA1 := hA'.mono hb1; have hB1 := hB'.mono hb1; clear hw1 hA' hB') | (go_at_call 59; go_in) | (go_at_call 60; go_in))
                go_ret2
                exact RetF.none hb1
              | true =>
                obtain ⟨m, rfl⟩ : ∃ m : Nat, n = m := ⟨n.toNat, by omega⟩
                have hm : shapeM A B m x = solveM (whiteM (crossM A A m) x) (crossM B A m) := by unfold shapeM; rw [if_pos ⟨h1, h2, h3, h4, h5, h6, h7⟩]; rfl
                rw [hm]
                clear hm
                go_enter Try.func38, Try.ntmps38
                go_wp2_with (first | (go_at_call 61; go_must (refine (l05Near_any _ _ x hr).mono ?_); rintro e w1 ⟨rfl, n1, hw1⟩; rw [h7]; have hb1 : Below w.heap.size w w1 := (by rw [hw1]; exact Below.drewN (Below.refl _ _) _); have hA1 := hA'.mono hb1; have hB1 := hB'.mono hb1; clear hw1 hA' hB') | (go_at_call 62; fail) | (go_at_call 59; go_in) | (go_at_call 60; go_in))
                refine (l05Auto_any _ _ A m hA1 (by omega) (by omega)).mono ?_
                rintro e2 w2 ⟨v2, rfl, o2, b2⟩
                have hb2 := hb1.trans (b2.mono hb1.size)
                have hA2 := hA1.mono b2
                have hB2 := hB1.mono b2
                have hs2 := hb2.size
                clear hA1 hB1 b2 hb1
                go_wp2_with fail
                refine (l05White_any _ _ (crossM A A m) _ x o2.rd (by rw [crossM_length]; omega) (by rw [crossM_length]; omega) hr).mono ?_
                rintro e3 w3 ⟨v3, rfl, o3, b3⟩
                have hb3 := hb2.trans (b3.mono hs2)
                have hA3 := hA2.mono b3
                have hB3 := hB2.mono b3
                have hs3 := hb3.size
                clear hA2 hB2 b3 hb2 o2
                go_wp2_with fail
                refine (l05Cross_any _ _ _ B A m hB3 hA3 (by omega) (by omega) (by omega)).mono ?_
                rintro e4 w4 ⟨v4, rfl, o4, b4⟩
                have hb4 := hb3.trans (b4.mono hs3)
                have o34 := o3.kept b4
                have hs4 := hb4.size
                clear hA3 hB3 b4 hb3 o3
                go_wp2_with fail
                refine (l05Solve_any _ _ _ (whiteM (crossM A A m) x) (crossM B A m) o34.rd o4.rd (by rw [whiteM_length, crossM_length]; omega) (by rw [whiteM_length, crossM_length, crossM_length]) (by rw [whiteM_length, crossM_length]; omega)).mono ?_
                rintro e5 w5 ⟨v, v2, r2, ok, rfl, h8, h9⟩
                go_wp2
                go_ret2
                exact RetF.mk (h8.lower hs4) (hb4.trans (h9.mono hs4))
            · have hm : shapeM A B n x = none := by unfold shapeM; rw [if_neg (fun h => h6 h.2.2.2.2.2.1)]
              rw [hm]
              clear hm
              go_enter Try.func38, Try.ntmps38
              go_wp2
              go_ret2
              exact RetF.none (Below.refl _ _)
          · have hm : shapeM A B n x = none := by unfold shapeM; rw [if_neg (fun h => h5 h.2.2.2.2.1)]
            rw [hm]
            clear hm
            go_enter Try.func38, Try.ntmps38
            go_wp2
            go_ret2
            exact RetF.none (Below.refl _ _)
        · have hm : shapeM A B n x = none := by unfold shapeM; rw [if_neg (fun h => h4 h.2.2.2.1)]
          rw [hm]
          clear hm
          go_enter Try.func38, Try.ntmps38
          go_wp2
          go_ret2
          exact RetF.none (Below.refl _ _)
      · have hm : shapeM A B n x = none := by unfold shapeM; rw [if_neg (fun h => h3 h.2.2.1)]
        rw [hm]
        clear hm
        go_enter Try.func38, Try.ntmps38
        go_wp2
        go_ret2
        exact RetF.none (Below.refl _ _)
    · have hm : shapeM A B n x = none := by unfold shapeM; rw [if_neg (fun h => h2 h.2.1)]
      rw [hm]
      clear hm
      go_enter Try.func38, Try.ntmps38
      go_wp2
      go_ret2
      exact RetF.none (Below.refl _ _)
  · have hm : shapeM A B n x = none := by unfold shapeM; rw [if_neg (fun h => h1 h.1)]
    rw [hm]
    clear hm
    go_enter Try.func38, Try.ntmps38
    go_wp2
    go_ret2
    exact RetF.none (Below.refl _ _)

set_option maxRecDepth 100000 in
theorem specShapeFilter_any (w : World) (va vb : Value) (A B : List Nat) (n : Int) (r x : Nat) (hA : RdF w va A) (hB : RdF w vb B) (hr : FV .f32 r x) (hmA : A.length ≤ 1048576) (hmB : B.length ≤ 1048576) :
    Calls Try.prog 15 #[va, vb, .int .i64 n, .float .f32 r] w (RetF w (shapeM A B n x)) := by
  go_enter Try.func15, Try.ntmps15
  go_wp2_with fail
  refine (l05Shape_any w _ _ A B n _ x hA hB hr hmA hmB).mono ?_
  rintro e w1 ⟨v, ok, rfl, h1, h2⟩
  go_wp2
  go_ret2
  exact RetF.mk h1 h2
end Go.Proofs.Ytiappmhlmephjaa
