/- Blocks of cells, read; laid one behind the other. -/
import Derived.Test.YtjbaebgdebcipaaDoorStrB
namespace Go.Proofs.YtjbaebgdebcipaaDoor
open Go Go.RowKit

theorem cell_at {w : World} {g : Nat} {cs : Array Value} {t : TypeId} (i : Nat) (h : w.heap[g]? = some (.cells cs t (0, 0))) : w.cell? ⟨g, i, none⟩ = cs[i]? := by
  simp [World.cell?, h]
theorem RdF.ofBlock {w : World} {g : Nat} {cs : List Nat} {L : List Nat} {t : TypeId} (h : w.heap[g]? = some (.cells (cs.map (Value.float .f32)).toArray t (0, 0))) (hl : cs.length = L.length) (hf : ∀ j, j < L.length → FV .f32 (cs.getD j 0) (L.getD j 0)) :
    RdF w (.slice (some ⟨g, 0, none⟩) L.length L.length) L := by
  refine ⟨_, _, rfl, Nat.le_refl _, (fun h => by cases h), fun j hj => ⟨g, 0, _, rfl, ?_, _, rfl, hf j hj⟩⟩
  rw [Nat.zero_add, cell_at j h]
  simp [List.getElem?_eq_getElem (show j < cs.length by omega), List.getD_eq_getElem?_getD]

theorem heap2 (w : World) (A B : Obj) : ((w.alloc A).alloc B).heap[w.heap.size]? = some A ∧ ((w.alloc A).alloc B).heap[w.heap.size + 1]? = some B := by
  have s1 : (w.alloc A).heap.size = w.heap.size + 1 := World.size_alloc _ _
  refine ⟨?_, ?_⟩
  · rw [Below.heap_alloc _ _ _ (by omega), heap_alloc_new]
  · rw [← s1, heap_alloc_new]
end Go.Proofs.YtjbaebgdebcipaaDoor
