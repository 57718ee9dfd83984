/- Walks on a seat of gathers: SortGather, KeepPlaces. -/
import Derived.Test.YthacadbdncfocaaGr5
namespace Go.Proofs.Ythacadbdncfocaa
open Go Go.RowKit

theorem finRange_val (n : Nat) : (List.finRange n).map Fin.val = List.range n := by
  apply List.ext_getElem
  · simp
  · intro i h1 h2; simp
def sortJ (P : List Nat) : List Nat := insAll (ltP P) [] (List.range P.length)
theorem sortJ_length (P : List Nat) : (sortJ P).length = P.length := by simp [sortJ, insAll_length]
theorem sortJ_lt (P : List Nat) (i : Nat) (h : i < (sortJ P).length) : (sortJ P).getD i 0 < P.length := by
  have hm : (sortJ P).getD i 0 ∈ sortJ P := by
    rw [List.getD_eq_getElem?_getD, List.getElem?_eq_getElem h]
    exact List.getElem_mem h
  unfold sortJ at hm ⊢
  rw [insAll_mem] at hm
  rcases hm with hm | hm
  · cases hm
  · exact List.mem_range.1 hm
theorem RdF.heap {w w' : World} {v : Value} {L : List Nat} (h : RdF w v L) (hk : ∀ k, k < w.heap.size → w'.heap[k]? = w.heap[k]?) : RdF w' v L := by
  obtain ⟨a, c, hv, hc, hz, hr⟩ := h
  refine ⟨a, c, hv, hc, hz, fun j hj => ?_⟩
  obtain ⟨b, o, u, ha, hu, hR⟩ := hr j hj
  exact ⟨b, o, u, ha, (cellR_same (hk b (block_lt hu))).trans hu, hR⟩
/-- Which of the places lie between two numbers. -/
def Keeps (P : List Nat) (lo hi : Nat) (keep : Nat → Bool) : Prop :=
  ∀ j, j < P.length → ∃ b1 b2, (FloatKind.f32.format.order (P.getD j 0) lo == some Ordering.gt || FloatKind.f32.format.order (P.getD j 0) lo == some Ordering.eq) = b1 ∧ (FloatKind.f32.format.order (P.getD j 0) hi == some Ordering.lt || FloatKind.f32.format.order (P.getD j 0) hi == some Ordering.eq) = b2 ∧ keep j = (b1 && b2)
theorem keep_lt (keep : Nat → Bool) (n i : Nat) (h : i < ((List.range n).filter keep).length) : ((List.range n).filter keep).getD i 0 < n := by
  have hm : ((List.range n).filter keep).getD i 0 ∈ (List.range n).filter keep := by
    rw [List.getD_eq_getElem?_getD, List.getElem?_eq_getElem h]
    exact List.getElem_mem h
  exact List.mem_range.1 (List.mem_filter.1 hm).1
theorem keep_len (keep : Nat → Bool) (n : Nat) : ((List.range n).filter keep).length ≤ n := by
  have := List.length_filter_le keep (List.range n)
  rwa [List.length_range] at this
theorem keep_succ (keep : Nat → Bool) (n : Nat) (b : Bool) (h : keep n = b) : (List.range (n + 1)).filter keep = (List.range n).filter keep ++ cond b [n] [] := by
  rw [List.range_succ, List.filter_append]
  cases b <;> simp [h]
end Go.Proofs.Ythacadbdncfocaa
