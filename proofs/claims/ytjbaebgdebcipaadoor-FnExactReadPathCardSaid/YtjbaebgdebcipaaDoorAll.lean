/- All numbers of a list. -/
import Derived.Test.YtjbaebgdebcipaaDoorCv
namespace Go.Proofs.YtjbaebgdebcipaaDoor
open Go

def allTo (p : Nat → Bool) (L : List Nat) (j : Nat) : Bool := (List.range j).all fun i => p (L.getD i 0)
def allB (p : Nat → Bool) (L : List Nat) : Bool := allTo p L L.length
theorem allTo_succ (p : Nat → Bool) (L : List Nat) (j : Nat) : allTo p L (j + 1) = (allTo p L j && p (L.getD j 0)) := by simp [allTo, List.range_succ]
theorem allTo_false {p : Nat → Bool} {L : List Nat} {j n : Nat} (hj : j < n) (h : p (L.getD j 0) = false) : allTo p L n = false := by
  rw [Bool.eq_false_iff]
  intro ha
  have this : p (L.getD j 0) = true := List.all_eq_true.1 ha j (List.mem_range.2 hj)
  rw [h] at this
  cases this
theorem allTo_and (p q : Nat → Bool) (L : List Nat) (j : Nat) : (allTo p L j && allTo q L j) = allTo (fun x => p x && q x) L j := by
  induction j with
  | zero => rfl
  | succ j ih =>
    rw [allTo_succ, allTo_succ, allTo_succ, ← ih]
    cases allTo p L j <;> cases allTo q L j <;> cases p (L.getD j 0) <;> cases q (L.getD j 0) <;> rfl
theorem allTo_congr {p q : Nat → Bool} {L : List Nat} {j : Nat} (h : ∀ i, i < j → p (L.getD i 0) = q (L.getD i 0)) : allTo p L j = allTo q L j := by
  induction j with
  | zero => rfl
  | succ j ih => rw [allTo_succ, allTo_succ, ih fun i hi => h i (by omega), h j (by omega)]

end Go.Proofs.YtjbaebgdebcipaaDoor
