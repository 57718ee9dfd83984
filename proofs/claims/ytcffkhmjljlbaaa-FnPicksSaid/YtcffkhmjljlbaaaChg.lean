/- What has turned lies in a set of blocks; blocks of three cells; the source of the draws. -/
import Derived.Test.YtcffkhmjljlbaaaOwn
import Derived.Test.YtcffkhmjljlbaaaOpnB
import Derived.Test.YtcffkhmjljlbaaaRelOp
namespace Go.Proofs.Ytcffkhmjljlbaaa
open Go Go.RowKit

/-- What has turned, of what was there, lies in the blocks of S. -/
structure Chg (w w' : World) (S : Nat → Prop) : Prop where
  os : w'.os = w.os
  tape : w'.tape = w.tape
  output : w'.output = w.output
  size : w.heap.size ≤ w'.heap.size
  block : ∀ k, k < w.heap.size → ¬ S k → w'.heap[k]? = w.heap[k]?
/-- The blocks from lo on, ahead of hi. -/
def Iv (lo hi : Nat) (k : Nat) : Prop := lo ≤ k ∧ k < hi
theorem Chg.refl (w : World) (S : Nat → Prop) : Chg w w S := ⟨rfl, rfl, rfl, Nat.le_refl _, fun _ _ _ => rfl⟩
theorem Chg.trans {a b c : World} {S : Nat → Prop} (h : Chg a b S) (k : Chg b c S) : Chg a c S :=
  ⟨k.os.trans h.os, k.tape.trans h.tape, k.output.trans h.output, Nat.le_trans h.size k.size, fun i hi' hne => (k.block i (Nat.lt_of_lt_of_le hi' h.size) hne).trans (h.block i hi' hne)⟩
theorem Chg.of_grown {w w' : World} {row : Option Nat} {S : Nat → Prop} (h : w.grownBy w' row) (hr : ∀ k, row = some k → S k) : Chg w w' S :=
  ⟨h.os, h.tape, h.output, h.size, fun k hk hne => h.block k hk fun e => hne (hr k e.symm)⟩
theorem Chg.of_below {w w' : World} (h : Below w.heap.size w w') (S : Nat → Prop) : Chg w w' S := ⟨h.os, h.tape, h.output, h.size, fun k hk _ => h.block k hk⟩
theorem Chg.drewN {a w : World} {S : Nat → Prop} (h : Chg a w S) (n : Nat) : Chg a (w.drewN n) S := ⟨h.os, h.tape, h.output, h.size, h.block⟩
theorem Chg.alloc {a w : World} {S : Nat → Prop} (h : Chg a w S) (o : Obj) : Chg a (w.alloc o) S := h.trans (Chg.of_below ((Below.refl _ _).alloc (Nat.le_refl _) _) _)
theorem Chg.setCell {a w : World} {S : Nat → Prop} (h : Chg a w S) {g : Nat} (hg : S g) (j : Nat) (u : Value) : Chg a (w.setCell ⟨g, j, none⟩ u) S :=
  h.trans (Chg.of_grown (grownBy_setCell w g j u) fun k hk => by cases hk; exact hg)
theorem Chg.wide {w w' : World} {S S' : Nat → Prop} (h : Chg w w' S) (h1 : ∀ k, S k → S' k) : Chg w w' S' :=
  ⟨h.os, h.tape, h.output, h.size, fun k hk hne => h.block k hk fun e => hne (h1 k e)⟩
theorem Below.chg {B : Nat} {a w w' : World} {S : Nat → Prop} (h : Below B a w) (hc : Chg w w' S) (hB : ∀ k, S k → B ≤ k) (hs : B ≤ w.heap.size) : Below B a w' :=
  ⟨hc.os.trans h.os, hc.tape.trans h.tape, hc.output.trans h.output, Nat.le_trans h.size hc.size, fun k hk => (hc.block k (by omega) (fun e => by have := hB k e; omega)).trans (h.block k hk)⟩
theorem ownsRow_same {w w' : World} {B : Nat} {e : TypeId} {size : Nat} {v : Value} {n : Nat} {xs : List Value} (h : w.ownsRow B e size v n xs) (hs : ∀ k, v.ownBlock = some k → w'.heap[k]? = w.heap[k]?) : w'.ownsRow B e size v n xs := by
  refine ⟨h.1, ?_⟩
  rcases h.2 with hn | ⟨g, cap, cur, rfl, hb, hgg, rest⟩
  · exact .inl hn
  · exact .inr ⟨g, cap, cur, rfl, hb, (hs g rfl).trans hgg, rest⟩
theorem ownsRow_lower {w : World} {B B' : Nat} {e : TypeId} {size : Nat} {v : Value} {n : Nat} {xs : List Value} (h : w.ownsRow B e size v n xs) (hb : B' ≤ B) : w.ownsRow B' e size v n xs := by
  refine ⟨h.1, ?_⟩
  rcases h.2 with hn | ⟨g, cap, cur, hv, hg, rest⟩
  · exact .inl hn
  · exact .inr ⟨g, cap, cur, hv, Nat.le_trans hb hg, rest⟩
theorem OwnF.same {w w' : World} {B : Nat} {v : Value} {L : List Nat} (h : OwnF w B v L) (hs : ∀ k, v.ownBlock = some k → w'.heap[k]? = w.heap[k]?) : OwnF w' B v L := by
  obtain ⟨bits, hl, hf, hown⟩ := h
  exact ⟨bits, hl, hf, ownsRow_same hown hs⟩
theorem OwnF.chg {w w' : World} {S : Nat → Prop} {B : Nat} {v : Value} {L : List Nat} (h : OwnF w B v L) (hc : Chg w w' S) (hd : ∀ k, v.ownBlock = some k → ¬ S k) : OwnF w' B v L :=
  h.same fun k hk => hc.block k (h.lt hk).2 (hd k hk)
theorem blk3 {w : World} {g : Nat} {t : TypeId} {a b c : Value} (h : w.heap[g]? = some (.cells #[a, b, c] t (0, 0))) :
    w.cell? ⟨g, 0, none⟩ = some a ∧ w.cell? ⟨g, 1, none⟩ = some b ∧ w.cell? ⟨g, 2, none⟩ = some c ∧ w.frozen? ⟨g, 0, none⟩ = false ∧ w.frozen? ⟨g, 1, none⟩ = false ∧ w.frozen? ⟨g, 2, none⟩ = false :=
  ⟨cell_of_row w g 0 _ t (0, 0) h, cell_of_row w g 1 _ t (0, 0) h, cell_of_row w g 2 _ t (0, 0) h, frozen_of_row w g 0 _ t h, frozen_of_row w g 1 _ t h, frozen_of_row w g 2 _ t h⟩
theorem heap3 (w : World) (A B C : Obj) : (((w.alloc A).alloc B).alloc C).heap[w.heap.size]? = some A ∧ (((w.alloc A).alloc B).alloc C).heap[w.heap.size + 1]? = some B ∧ (((w.alloc A).alloc B).alloc C).heap[w.heap.size + 1 + 1]? = some C := by
  have s1 : (w.alloc A).heap.size = w.heap.size + 1 := World.size_alloc _ _
  have s2 : ((w.alloc A).alloc B).heap.size = w.heap.size + 1 + 1 := by rw [World.size_alloc, s1]
  refine ⟨?_, ?_, ?_⟩
  · rw [Below.heap_alloc _ _ _ (by omega), Below.heap_alloc _ _ _ (by omega), heap_alloc_new]
  · rw [Below.heap_alloc _ _ _ (by omega), ← s1, heap_alloc_new]
  · rw [← s2, heap_alloc_new]
/-- Another world of the same size, in which block g alone is another one. -/
structure Put (w w' : World) (g : Nat) (t : TypeId) (cs : Array Value) : Prop where
  chg : Chg w w' fun k => k = g
  size : w'.heap.size = w.heap.size
  heap : w'.heap[g]? = some (.cells cs t (0, 0))
theorem Put.one {w : World} {g : Nat} {t : TypeId} {cs : Array Value} (h : w.heap[g]? = some (.cells cs t (0, 0))) (i : Nat) (u : Value) : Put w (w.setCell ⟨g, i, none⟩ u) g t (cs.setIfInBounds i u) :=
  ⟨Chg.setCell (S := fun k => k = g) (Chg.refl _ _) rfl i u, by simp [World.setCell], heap_setCell_same w g i cs t u h⟩
theorem Put.next {w w' : World} {g : Nat} {t : TypeId} {cs : Array Value} (h : Put w w' g t cs) (i : Nat) (u : Value) : Put w (w'.setCell ⟨g, i, none⟩ u) g t (cs.setIfInBounds i u) :=
  ⟨h.chg.trans (Put.one h.heap i u).chg, (Put.one h.heap i u).size.trans h.size, (Put.one h.heap i u).heap⟩
theorem Put.cs {w w' : World} {g : Nat} {t : TypeId} {cs cs' : Array Value} (h : Put w w' g t cs) (e : cs = cs') : Put w w' g t cs' := e ▸ h
theorem put3 {w : World} {g : Nat} {t : TypeId} {x y z : Value} (h : w.heap[g]? = some (.cells #[x, y, z] t (0, 0))) (a b c : Value) :
    Put w (((w.setCell ⟨g, 0, none⟩ a).setCell ⟨g, 1, none⟩ b).setCell ⟨g, 2, none⟩ c) g t #[a, b, c] := (((Put.one h 0 a).next 1 b).next 2 c).cs (by simp)
theorem alloc_new (w : World) (o : Obj) : (w.alloc o).heap[w.heap.size]? = some o := by
  show (w.heap.push o)[w.heap.size]? = some o
  simp
/-- The source of the draws: the bytes, the place, the sequence. -/
def Src (w : World) (g : Nat) (a : Option Addr) (n c : Nat) (t : Int) : Prop :=
  ∃ sd : Int, w.heap[g]? = some (.cells #[.slice a n c, .int .i64 t, .int .u64 sd] 62 (0, 0)) ∧ 0 ≤ sd ∧ sd < 18446744073709551616
end Go.Proofs.Ytcffkhmjljlbaaa
