/- What a function of filters hands back. -/
import Derived.Test.YtiappmhlmephjaaW5
namespace Go.Proofs.Ytiappmhlmephjaa
open Go Go.RowKit
/-- A list, or a failure, is handed back; what was there is as it was. -/
def RetF (w : World) (o : Option (List Nat)) (e : Ending) (w' : World) : Prop := ∃ v ok, e = .returned (.tuple #[v, .bool ok]) ∧ ResF w' w.heap.size v ok o ∧ Below w.heap.size w w'
theorem RetF.mk {w w' : World} {o : Option (List Nat)} {v : Value} {ok : Bool} (h : ResF w' w.heap.size v ok o) (hb : Below w.heap.size w w') : RetF w o (.returned (.tuple #[v, .bool ok])) w' := ⟨v, ok, rfl, h, hb⟩
theorem RetF.none {w w' : World} (hb : Below w.heap.size w w') : RetF w none (.returned (.tuple #[.slice none 0 0, .bool false])) w' := RetF.mk ⟨rfl, rfl⟩ hb
theorem ResF.lower {w : World} {B B' : Nat} {v : Value} {ok : Bool} {o : Option (List Nat)} (h : ResF w B v ok o) (hB : B' ≤ B) : ResF w B' v ok o := by
  cases o with
  | none => exact h
  | some L => exact ⟨h.1, h.2.mono hB⟩
def TrueB (w : World) (e : Ending) (w' : World) : Prop := e = .returned (.bool true) ∧ Below w.heap.size w w'
theorem TrueB.mk {w w' : World} (h : Below w.heap.size w w') : TrueB w (.returned (.bool true)) w' := ⟨rfl, h⟩
theorem solveM_len' (A R : List Nat) {n : Nat} (h : A.length + 1 ≤ n) : ((solveM A R).getD []).length ≤ n := by
  cases hs : solveM A R with
  | none => simp
  | some F => have := solveM_length A R F hs; simp; omega
end Go.Proofs.Ytiappmhlmephjaa
