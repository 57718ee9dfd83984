/- What has turned lies in a set of blocks; blocks of three cells; the source of the draws. -/
import Derived.Test.YthacadbdncfocaaTreeB
import Derived.Test.YthacadbdncfocaaOpnB
namespace Go.Proofs.Ythacadbdncfocaa
open Go Go.RowKit

theorem blk3 {w : World} {g : Nat} {t : TypeId} {a b c : Value} (h : w.heap[g]? = some (.cells #[a, b, c] t (0, 0))) :
    w.cell? ⟨g, 0, none⟩ = some a ∧ w.cell? ⟨g, 1, none⟩ = some b ∧ w.cell? ⟨g, 2, none⟩ = some c ∧ w.frozen? ⟨g, 0, none⟩ = false ∧ w.frozen? ⟨g, 1, none⟩ = false ∧ w.frozen? ⟨g, 2, none⟩ = false :=
  ⟨cell_of_row w g 0 _ t (0, 0) h, cell_of_row w g 1 _ t (0, 0) h, cell_of_row w g 2 _ t (0, 0) h, frozen_of_row w g 0 _ t h, frozen_of_row w g 1 _ t h, frozen_of_row w g 2 _ t h⟩
theorem heap3 (w : World) (A B C : Obj) : (((w.alloc A).alloc B).alloc C).heap[w.heap.size]? = some A ∧ (((w.alloc A).alloc B).alloc C).heap[w.heap.size + 1]? = some B ∧ (((w.alloc A).alloc B).alloc C).heap[w.heap.size + 1 + 1]? = some C := by
  have s1 : (w.alloc A).heap.size = w.heap.size + 1 := World.size_alloc _ _
  have s2 : ((w.alloc A).alloc B).heap.size = w.heap.size + 1 + 1 := by rw [World.size_alloc, s1]
  refine ⟨?_, ?_, ?_⟩
  · rw [Below.heap_alloc _ _ _ (by omega), Below.heap_alloc _ _ _ (by omega), heap_alloc_new]
  · rw [Below.heap_alloc _ _ _ (by omega), ← s1, heap_alloc_new]
  · rw [← s2, heap_alloc_new]
/-- Another world of the same size, in which block g alone is another one. -/
structure Put (w w' : World) (g : Nat) (t : TypeId) (cs : Array Value) : Prop where
  chg : Chg w w' fun k => k = g
  size : w'.heap.size = w.heap.size
  heap : w'.heap[g]? = some (.cells cs t (0, 0))
theorem Put.one {w : World} {g : Nat} {t : TypeId} {cs : Array Value} (h : w.heap[g]? = some (.cells cs t (0, 0))) (i : Nat) (u : Value) : Put w (w.setCell ⟨g, i, none⟩ u) g t (cs.setIfInBounds i u) :=
  ⟨Chg.setCell (S := fun k => k = g) (Chg.refl _ _) rfl i u, by simp [World.setCell], heap_setCell_same w g i cs t u h⟩
theorem Put.next {w w' : World} {g : Nat} {t : TypeId} {cs : Array Value} (h : Put w w' g t cs) (i : Nat) (u : Value) : Put w (w'.setCell ⟨g, i, none⟩ u) g t (cs.setIfInBounds i u) :=
  ⟨h.chg.trans (Put.one h.heap i u).chg, (Put.one h.heap i u).size.trans h.size, (Put.one h.heap i u).heap⟩
theorem Put.cs {w w' : World} {g : Nat} {t : TypeId} {cs cs' : Array Value} (h : Put w w' g t cs) (e : cs = cs') : Put w w' g t cs' := e ▸ h
theorem put3 {w : World} {g : Nat} {t : TypeId} {x y z : Value} (h : w.heap[g]? = some (.cells #[x, y, z] t (0, 0))) (a b c : Value) :
    Put w (((w.setCell ⟨g, 0, none⟩ a).setCell ⟨g, 1, none⟩ b).setCell ⟨g, 2, none⟩ c) g t #[a, b, c] := (((Put.one h 0 a).next 1 b).next 2 c).cs (by simp)
theorem alloc_new (w : World) (o : Obj) : (w.alloc o).heap[w.heap.size]? = some o := by
  show (w.heap.push o)[w.heap.size]? = some o
  simp
end Go.Proofs.Ythacadbdncfocaa
