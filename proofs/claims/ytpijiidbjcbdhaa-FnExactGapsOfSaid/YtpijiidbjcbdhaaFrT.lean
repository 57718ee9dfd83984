/- Walks: copies that the laws make of frames. -/
import Derived.Test.YtpijiidbjcbdhaaFrE
namespace Go.Proofs.Ytpijiidbjcbdhaa
open Go Go.RowKit

/-- A list of frames, all that it leads to in S. -/
def OwnFr (w : World) (S : Nat → Prop) (v : Value) (Fs : List FM) : Prop := OwnC w S 61 3 v Fs.length (dsF Fs)
theorem OwnFr.rd {w : World} {S : Nat → Prop} {v : Value} {Fs : List FM} (h : OwnFr w S v Fs) : RdFr w v Fs := OwnC.rd h
theorem Try.infoFr : (Try.prog.info? 61).map (fun i => (i.zero, i.size, i.bytes)) = some (some (.agg #[.int .i64 0, .int .i64 0, .slice none 0 0]), 3, 40) := by kernel_rfl

theorem blk3 {w : World} {g : Nat} {t : TypeId} {a b c : Value} (h : w.heap[g]? = some (.cells #[a, b, c] t (0, 0))) :
    w.cell? ⟨g, 0, none⟩ = some a ∧ w.cell? ⟨g, 1, none⟩ = some b ∧ w.cell? ⟨g, 2, none⟩ = some c ∧ w.frozen? ⟨g, 0, none⟩ = false ∧ w.frozen? ⟨g, 1, none⟩ = false ∧ w.frozen? ⟨g, 2, none⟩ = false :=
  ⟨cell_of_row w g 0 _ t (0, 0) h, cell_of_row w g 1 _ t (0, 0) h, cell_of_row w g 2 _ t (0, 0) h, frozen_of_row w g 0 _ t h, frozen_of_row w g 1 _ t h, frozen_of_row w g 2 _ t h⟩
theorem heap3 (w : World) (A B C : Obj) : (((w.alloc A).alloc B).alloc C).heap[w.heap.size]? = some A ∧ (((w.alloc A).alloc B).alloc C).heap[w.heap.size + 1]? = some B ∧ (((w.alloc A).alloc B).alloc C).heap[w.heap.size + 1 + 1]? = some C := by
  have s1 : (w.alloc A).heap.size = w.heap.size + 1 := World.size_alloc _ _
  have s2 : ((w.alloc A).alloc B).heap.size = w.heap.size + 1 + 1 := by rw [World.size_alloc, s1]
  refine ⟨?_, ?_, ?_⟩
  · rw [Below.heap_alloc _ _ _ (by omega), Below.heap_alloc _ _ _ (by omega), heap_alloc_new]
  · rw [Below.heap_alloc _ _ _ (by omega), ← s1, heap_alloc_new]
  · rw [← s2, heap_alloc_new]
/-- Another world of the same size, in which block g alone is another one. -/
structure Put (w w' : World) (g : Nat) (t : TypeId) (cs : Array Value) : Prop where
  chg : Chg w w' fun k => k = g
  size : w'.heap.size = w.heap.size
  heap : w'.heap[g]? = some (.cells cs t (0, 0))
theorem Put.one {w : World} {g : Nat} {t : TypeId} {cs : Array Value} (h : w.heap[g]? = some (.cells cs t (0, 0))) (i : Nat) (u : Value) : Put w (w.setCell ⟨g, i, none⟩ u) g t (cs.setIfInBounds i u) :=
  ⟨Chg.setCell (S := fun k => k = g) (Chg.refl _ _) rfl i u, by simp [World.setCell], heap_setCell_same w g i cs t u h⟩
theorem Put.next {w w' : World} {g : Nat} {t : TypeId} {cs : Array Value} (h : Put w w' g t cs) (i : Nat) (u : Value) : Put w (w'.setCell ⟨g, i, none⟩ u) g t (cs.setIfInBounds i u) :=
  ⟨h.chg.trans (Put.one h.heap i u).chg, (Put.one h.heap i u).size.trans h.size, (Put.one h.heap i u).heap⟩
theorem Put.cs {w w' : World} {g : Nat} {t : TypeId} {cs cs' : Array Value} (h : Put w w' g t cs) (e : cs = cs') : Put w w' g t cs' := e ▸ h
theorem put3 {w : World} {g : Nat} {t : TypeId} {x y z : Value} (h : w.heap[g]? = some (.cells #[x, y, z] t (0, 0))) (a b c : Value) :
    Put w (((w.setCell ⟨g, 0, none⟩ a).setCell ⟨g, 1, none⟩ b).setCell ⟨g, 2, none⟩ c) g t #[a, b, c] := (((Put.one h 0 a).next 1 b).next 2 c).cs (by simp)
set_option maxRecDepth 100000 in
set_option maxHeartbeats 800000 in
theorem toFrame_any (w : World) (f : FM) (v : Value) (h : RdF w v f.L) (hn : f.L.length ≤ 1048576) :
    Calls Try.prog 36 #[.agg #[.int .i64 f.st, .int .i64 f.sa, v]] w fun e w' => ∃ v', e = .returned (.agg #[.int .i64 f.st, .int .i64 f.sa, v']) ∧ OwnF w' w.heap.size v' f.L ∧ Below w.heap.size w w' := by
  have R1 := Lib.hid h
  obtain ⟨a1, c1, rfl, -, -, -⟩ := h.opened
  clear h
  obtain ⟨st, sa, L⟩ := f
  simp only at *
  have hb0 : Below w.heap.size w (((w.alloc (.cells #[.int .i64 st, .int .i64 sa, .slice a1 L.length c1] 54)).alloc (.cells #[.int .i64 0, .int .i64 0, .slice none 0 0] 61)).alloc (.cells #[.int .i64 st, .int .i64 sa, .slice none 0 0] 61)) := (by (repeat (first | exact Below.refl _ _ | (refine Below.drewN ?_ _) | (refine Below.alloc ?_ (by first | exact Nat.le_refl _ | (simp; done) | (simp; omega)) _))))
  have h3 := heap3 w (.cells #[.int .i64 st, .int .i64 sa, .slice a1 L.length c1] 54) (.cells #[.int .i64 0, .int .i64 0, .slice none 0 0] 61) (.cells #[.int .i64 st, .int .i64 sa, .slice none 0 0] 61)
  have hsz : (((w.alloc (.cells #[.int .i64 st, .int .i64 sa, .slice a1 L.length c1] 54)).alloc (.cells #[.int .i64 0, .int .i64 0, .slice none 0 0] 61)).alloc (.cells #[.int .i64 st, .int .i64 sa, .slice none 0 0] 61)).heap.size = w.heap.size + 3 := by simp
  go_enter Try.func36, Try.ntmps36
  go_wp2_with fail
  generalize (((w.alloc (.cells #[.int .i64 st, .int .i64 sa, .slice a1 L.length c1] 54)).alloc (.cells #[.int .i64 0, .int .i64 0, .slice none 0 0] 61)).alloc (.cells #[.int .i64 st, .int .i64 sa, .slice none 0 0] 61)) = w0 at *
  refine (toFloat32S_any w0 _ L (R1.out.mono hb0) hn).mono ?_
  rintro e1 w1 ⟨v1, rfl, o1, b1⟩
  obtain ⟨a2, c2, rfl, -, -, -⟩ := o1.rd.opened
  have hb1 := hb0.trans (b1.mono hb0.size)
  have s1 := b1.size
  have l6 := (b1.block w.heap.size (by omega)).trans h3.1
  have m6 := (b1.block (w.heap.size + 1) (by omega)).trans h3.2.1
  have n6 := (b1.block (w.heap.size + 1 + 1) (by omega)).trans h3.2.2
  obtain ⟨g0, g1, g2, g3, g4, g5⟩ := blk3 n6
  obtain ⟨i0, i1, i2, i3, i4, i5⟩ := blk3 m6
  go_wp2
  have P1 := (Put.one n6 2 (.slice a2 L.length c2)).cs (cs' := #[.int .i64 st, .int .i64 sa, .slice a2 L.length c2]) (by simp)
  generalize w1.setCell ⟨w.heap.size + 1 + 1, 2, none⟩ (.slice a2 L.length c2) = w2 at *
  have P2 := put3 ((P1.chg.block (w.heap.size + 1) (by omega) (by omega)).trans m6) (.int .i64 st) (.int .i64 sa) (.slice a2 L.length c2)
  generalize (((w2.setCell ⟨w.heap.size + 1, 0, none⟩ (.int .i64 st)).setCell ⟨w.heap.size + 1, 1, none⟩ (.int .i64 sa)).setCell ⟨w.heap.size + 1, 2, none⟩ (.slice a2 L.length c2)) = w3 at *
  have z1 := P1.size
  have z2 := P2.size
  refine bodyPost_ret (results_cell_row (g := w.heap.size + 1) rfl _ _ _ _ _ _ (by rfl) P2.heap Try.underlying61 rfl (by kernel_rfl)) rfl ?_
  exact ⟨_, rfl, ((o1.chg P1.chg fun k hk e => by have := (o1.lt hk).1; omega).chg P2.chg fun k hk e => by have := (o1.lt hk).1; omega).mono (by omega), Below.chg (Below.chg hb1 P1.chg (fun k hk => by omega) hb1.size) P2.chg (fun k hk => by omega) (by omega)⟩
end Go.Proofs.Ytpijiidbjcbdhaa
