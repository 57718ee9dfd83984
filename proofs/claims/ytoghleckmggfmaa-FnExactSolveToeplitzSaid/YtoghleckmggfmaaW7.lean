/- Walks: SolveToeplitz, of the program and of the reference. -/
import Derived.Test.YtoghleckmggfmaaW6
import Derived.Test.YtoghleckmggfmaaL1
namespace Go.Proofs.Ytoghleckmggfmaa
open Go Go.RowKit

/-- A list, or a failure, is handed back; what was there is as it was. -/
def RetF (w : World) (o : Option (List Nat)) (e : Ending) (w' : World) : Prop := ∃ v ok, e = .returned (.tuple #[v, .bool ok]) ∧ ResF w' w.heap.size v ok o ∧ Below w.heap.size w w'
theorem RetF.mk {w w' : World} {o : Option (List Nat)} {v : Value} {ok : Bool} (h : ResF w' w.heap.size v ok o) (hb : Below w.heap.size w w') : RetF w o (.returned (.tuple #[v, .bool ok])) w' := ⟨v, ok, rfl, h, hb⟩
def toepM (A R : List Nat) : Option (List Nat) := if 1 ≤ A.length ∧ A.length ≤ 24 ∧ R.length = A.length then solveM A R else none

set_option maxRecDepth 100000 in
set_option maxHeartbeats 800000 in
theorem implSolveToeplitz_any (w : World) (va vr : Value) (A R : List Nat) (hA : RdF w va A) (hR : RdF w vr R) (hmA : A.length ≤ 1048576) (hmR : R.length ≤ 1048576) :
    Calls Try.prog 19 #[va, vr] w (RetF w (toepM A R)) := by
  have hA' := hA
  have hR' := hR
  obtain ⟨a, ca, rfl, hca, -, -⟩ := hA.opened
  obtain ⟨b, cb, rfl, hcb, -, -⟩ := hR.opened
  by_cases h1 : 1 ≤ A.length
  · by_cases h2 : A.length ≤ 24
    · by_cases h3 : R.length = A.length
      · have hm : toepM A R = solveM A R := by unfold toepM; rw [if_pos ⟨h1, h2, h3⟩]
        rw [hm]
        have H3 := Lib.hid h3
        have h4 : ((A.length : Int) == (R.length : Int)) = true := by rw [h3]; simp
        clear h3 hm
        go_enter Try.func19, Try.ntmps19
        go_wp2_with (first | (go_at_call 56; go_must (refine (solve_any _ _ _ A R hA' hR' (by omega) H3.out (by omega)).mono ?_); rintro e w1 ⟨v, ok, rfl, h5, h6⟩) | go_in)
        go_ret2
        exact RetF.mk h5 h6
      · have hm : toepM A R = none := by unfold toepM; rw [if_neg (fun h => h3 h.2.2)]
        rw [hm]
        have h4 : ((A.length : Int) == (R.length : Int)) = false := by simp; omega
        clear hm hA' hR'
        go_enter Try.func19, Try.ntmps19
        go_wp2
        go_ret2
        exact RetF.mk ⟨rfl, rfl⟩ (Below.refl _ _)
    · have hm : toepM A R = none := by unfold toepM; rw [if_neg (fun h => h2 h.2.1)]
      rw [hm]
      clear hm hA' hR'
      go_enter Try.func19, Try.ntmps19
      go_wp2
      go_ret2
      exact RetF.mk ⟨rfl, rfl⟩ (Below.refl _ _)
  · have hm : toepM A R = none := by unfold toepM; rw [if_neg (fun h => h1 h.1)]
    rw [hm]
    clear hm hA' hR'
    go_enter Try.func19, Try.ntmps19
    go_wp2
    go_ret2
    exact RetF.mk ⟨rfl, rfl⟩ (Below.refl _ _)

set_option maxRecDepth 100000 in
set_option maxHeartbeats 800000 in
theorem specSolveToeplitz_any (w : World) (va vr : Value) (A R : List Nat) (hA : RdF w va A) (hR : RdF w vr R) (hmA : A.length ≤ 1048576) (hmR : R.length ≤ 1048576) :
    Calls Try.prog 17 #[va, vr] w (RetF w (toepM A R)) := by
  have hA' := hA
  have hR' := hR
  obtain ⟨a, ca, rfl, hca, -, -⟩ := hA.opened
  obtain ⟨b, cb, rfl, hcb, -, -⟩ := hR.opened
  by_cases h1 : 1 ≤ A.length
  · by_cases h2 : A.length ≤ 24
    · by_cases h3 : R.length = A.length
      · have hm : toepM A R = solveM A R := by unfold toepM; rw [if_pos ⟨h1, h2, h3⟩]
        rw [hm]
        have H3 := Lib.hid h3
        have h4 : ((R.length : Int) != (A.length : Int)) = false := by rw [h3]; simp
        clear h3 hm
        go_enter Try.func17, Try.ntmps17
        go_wp2_with (first | (go_at_call 54; go_must (refine (l05Solve_any _ _ _ A R hA' hR' (by omega) H3.out (by omega)).mono ?_); rintro e w1 ⟨v, v2, r, ok, rfl, h5, h6⟩) | go_in)
        go_ret2
        exact RetF.mk h5 h6
      · have hm : toepM A R = none := by unfold toepM; rw [if_neg (fun h => h3 h.2.2)]
        rw [hm]
        have h4 : ((R.length : Int) != (A.length : Int)) = true := by simp; omega
        clear hm hA' hR'
        go_enter Try.func17, Try.ntmps17
        go_wp2
        go_ret2
        exact RetF.mk ⟨rfl, rfl⟩ (Below.refl _ _)
    · have hm : toepM A R = none := by unfold toepM; rw [if_neg (fun h => h2 h.2.1)]
      rw [hm]
      clear hm hA' hR'
      go_enter Try.func17, Try.ntmps17
      go_wp2
      go_ret2
      exact RetF.mk ⟨rfl, rfl⟩ (Below.refl _ _)
  · have hm : toepM A R = none := by unfold toepM; rw [if_neg (fun h => h1 h.1)]
    rw [hm]
    clear hm hA' hR'
    go_enter Try.func17, Try.ntmps17
    go_wp2
    go_ret2
    exact RetF.mk ⟨rfl, rfl⟩ (Below.refl _ _)
end Go.Proofs.Ytoghleckmggfmaa
