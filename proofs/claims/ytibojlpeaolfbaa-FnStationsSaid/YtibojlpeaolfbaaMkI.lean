/- Walks: marks that the laws set in lists of integers, and look for. -/
import Derived.Test.YtibojlpeaolfbaaFrM
namespace Go.Proofs.Ytibojlpeaolfbaa
open Go Go.RowKit

def marksI (k n : Nat) : List Int := (List.range n).map fun i => ((k + i : Nat) : Int)
theorem marksI_length (k n : Nat) : (marksI k n).length = n := by simp [marksI]
theorem marksI_at (k n i : Nat) (h : i < n) : inL (marksI k n) i = ((k + i : Nat) : Int) := by
  simp [inL, marksI, List.getD_eq_getElem?_getD, List.getElem?_map, List.getElem?_range h]
theorem cut_set (A L : List Int) (j : Nat) (hj : j < L.length) (hA : A.length = L.length) : (A.take j ++ L.drop j).set j (inL A j) = A.take (j + 1) ++ L.drop (j + 1) := by
  have h1 : (A.take j).length = j := by rw [List.length_take]; omega
  rw [List.set_append_right _ _ (by rw [h1]; exact Nat.le_refl _), h1, Nat.sub_self, drop_cons_inL hj, List.set_cons_zero]
  have h2 : A.take (j + 1) = A.take j ++ [inL A j] := by
    rw [List.take_add_one]
    congr 1
    unfold inL
    rw [List.getD_eq_getElem?_getD, List.getElem?_eq_getElem (by omega)]
    rfl
  rw [h2, List.append_assoc]
  rfl
theorem OwnI.form {w : World} {B : Nat} {v : Value} {L : List Int} (h : OwnI w B v L) :
    (v = .slice none 0 0 ∧ L = []) ∨ ∃ g cap, v = .slice (some ⟨g, 0, none⟩) L.length cap ∧ B ≤ g ∧ g < w.heap.size ∧ L.length ≤ cap ∧
      (∀ j, j < L.length → w.cell? ⟨g, j, none⟩ = some (.int .i64 (inL L j))) ∧ ∀ j, w.frozen? ⟨g, j, none⟩ = false := by
  have hown0 : w.ownsRow B 2 1 v L.length (L.map (Value.int .i64)) := h
  rcases hown0.2 with ⟨rfl, hn⟩ | ⟨g, cap, cur, rfl, hb, hg, hn, _⟩
  · exact .inl ⟨rfl, List.eq_nil_of_length_eq_zero hn⟩
  · refine .inr ⟨g, cap, rfl, hb, (hown0.lt g rfl).2, hn, fun j hj => ?_, fun j => hown0.frozenAt j⟩
    rw [hown0.cellAt j (by omega)]
    simp [inL, List.getD_eq_getElem?_getD, List.getElem?_map, List.getElem?_eq_getElem hj]
theorem OwnI.stored {w : World} {B g cap n : Nat} {L : List Int} (h : OwnI w B (.slice (some ⟨g, 0, none⟩) n cap) L) (hn : L.length = n) (j : Nat) (x : Int) :
    OwnI (w.setCell ⟨g, j, none⟩ (.int .i64 x)) B (.slice (some ⟨g, 0, none⟩) n cap) (L.set j x) := by
  subst hn
  have := (World.ownsRow.stored h j (.int .i64 x)).1
  unfold OwnI
  rw [List.length_set, List.map_set]
  exact this

end Go.Proofs.Ytibojlpeaolfbaa
