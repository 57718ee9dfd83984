/- A block that lies as it was laid. -/
import Derived.Test.YtmicghcgljldpaaDoorL6
namespace Go.Proofs.YtmicghcgljldpaaDoor
open Go Go.RowKit

def HB (w : World) (g : Nat) (o : Obj) : Prop := g < w.heap.size ∧ w.heap[g]? = some o
theorem HB.mono {w w' : World} {g : Nat} {o : Obj} (h : HB w g o) (hb : Below w.heap.size w w') : HB w' g o :=
  ⟨Nat.lt_of_lt_of_le h.1 hb.size, (hb.block g h.1).trans h.2⟩
theorem HB.new (w : World) (o : Obj) : HB (w.alloc o) w.heap.size o := ⟨by rw [World.size_alloc]; omega, alloc_new w o⟩
theorem Below.curr {B : Nat} {w w' w'' : World} (h : Below B w w') (e1 : w''.os = w'.os) (e2 : w''.tape = w'.tape) (e3 : w''.output = w'.output) (e4 : w''.heap = w'.heap) : Below B w w'' :=
  ⟨e1.trans h.os, e2.trans h.tape, e3.trans h.output, e4 ▸ h.size, fun k hk => by rw [e4]; exact h.block k hk⟩
end Go.Proofs.YtmicghcgljldpaaDoor
