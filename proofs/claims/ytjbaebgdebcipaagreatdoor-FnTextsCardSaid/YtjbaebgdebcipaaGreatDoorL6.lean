/- Walks: copies that the laws make of grounds, gathers and desks. -/
import Derived.Test.YtjbaebgdebcipaaGreatDoorL5
namespace Go.Proofs.YtjbaebgdebcipaaGreatDoor
open Go Go.RowKit

theorem blk3 {w : World} {g : Nat} {t : TypeId} {a b c : Value} (h : w.heap[g]? = some (.cells #[a, b, c] t (0, 0))) :
    w.cell? ⟨g, 0, none⟩ = some a ∧ w.cell? ⟨g, 1, none⟩ = some b ∧ w.cell? ⟨g, 2, none⟩ = some c ∧ w.frozen? ⟨g, 0, none⟩ = false ∧ w.frozen? ⟨g, 1, none⟩ = false ∧ w.frozen? ⟨g, 2, none⟩ = false :=
  ⟨cell_of_row w g 0 _ t (0, 0) h, cell_of_row w g 1 _ t (0, 0) h, cell_of_row w g 2 _ t (0, 0) h, frozen_of_row w g 0 _ t h, frozen_of_row w g 1 _ t h, frozen_of_row w g 2 _ t h⟩
theorem blk6 {w : World} {g : Nat} {t : TypeId} {a b c d e f : Value} (h : w.heap[g]? = some (.cells #[a, b, c, d, e, f] t (0, 0))) :
    (w.cell? ⟨g, 0, none⟩ = some a ∧ w.cell? ⟨g, 1, none⟩ = some b ∧ w.cell? ⟨g, 2, none⟩ = some c ∧ w.cell? ⟨g, 3, none⟩ = some d ∧ w.cell? ⟨g, 4, none⟩ = some e ∧ w.cell? ⟨g, 5, none⟩ = some f) ∧
    w.frozen? ⟨g, 0, none⟩ = false ∧ w.frozen? ⟨g, 1, none⟩ = false ∧ w.frozen? ⟨g, 2, none⟩ = false ∧ w.frozen? ⟨g, 3, none⟩ = false ∧ w.frozen? ⟨g, 4, none⟩ = false ∧ w.frozen? ⟨g, 5, none⟩ = false :=
  ⟨⟨cell_of_row w g 0 _ t (0, 0) h, cell_of_row w g 1 _ t (0, 0) h, cell_of_row w g 2 _ t (0, 0) h, cell_of_row w g 3 _ t (0, 0) h, cell_of_row w g 4 _ t (0, 0) h, cell_of_row w g 5 _ t (0, 0) h⟩,
    frozen_of_row w g 0 _ t h, frozen_of_row w g 1 _ t h, frozen_of_row w g 2 _ t h, frozen_of_row w g 3 _ t h, frozen_of_row w g 4 _ t h, frozen_of_row w g 5 _ t h⟩
theorem alloc_new (w : World) (o : Obj) : (w.alloc o).heap[w.heap.size]? = some o := by
  show (w.heap.push o)[w.heap.size]? = some o
  simp
theorem heap2 (w : World) (A B : Obj) : ((w.alloc A).alloc B).heap[w.heap.size]? = some A ∧ ((w.alloc A).alloc B).heap[w.heap.size + 1]? = some B := by
  have s1 : (w.alloc A).heap.size = w.heap.size + 1 := World.size_alloc _ _
  refine ⟨?_, ?_⟩
  · rw [Below.heap_alloc _ _ _ (by omega), heap_alloc_new]
  · rw [← s1, heap_alloc_new]
theorem heap3 (w : World) (A B C : Obj) : (((w.alloc A).alloc B).alloc C).heap[w.heap.size]? = some A ∧ (((w.alloc A).alloc B).alloc C).heap[w.heap.size + 1]? = some B ∧ (((w.alloc A).alloc B).alloc C).heap[w.heap.size + 1 + 1]? = some C := by
  have s1 : (w.alloc A).heap.size = w.heap.size + 1 := World.size_alloc _ _
  have s2 : ((w.alloc A).alloc B).heap.size = w.heap.size + 1 + 1 := by rw [World.size_alloc, s1]
  refine ⟨?_, ?_, ?_⟩
  · rw [Below.heap_alloc _ _ _ (by omega), Below.heap_alloc _ _ _ (by omega), heap_alloc_new]
  · rw [Below.heap_alloc _ _ _ (by omega), ← s1, heap_alloc_new]
  · rw [← s2, heap_alloc_new]
/-- Another world of the same size, in which block g alone is another one. -/
structure Put (w w' : World) (g : Nat) (t : TypeId) (cs : Array Value) : Prop where
  chg : Chg w w' fun k => k = g
  size : w'.heap.size = w.heap.size
  heap : w'.heap[g]? = some (.cells cs t (0, 0))
theorem Put.one {w : World} {g : Nat} {t : TypeId} {cs : Array Value} (h : w.heap[g]? = some (.cells cs t (0, 0))) (i : Nat) (u : Value) : Put w (w.setCell ⟨g, i, none⟩ u) g t (cs.setIfInBounds i u) :=
  ⟨Chg.setCell (S := fun k => k = g) (Chg.refl _ _) rfl i u, by simp [World.setCell], heap_setCell_same w g i cs t u h⟩
theorem Put.next {w w' : World} {g : Nat} {t : TypeId} {cs : Array Value} (h : Put w w' g t cs) (i : Nat) (u : Value) : Put w (w'.setCell ⟨g, i, none⟩ u) g t (cs.setIfInBounds i u) :=
  ⟨h.chg.trans (Put.one h.heap i u).chg, (Put.one h.heap i u).size.trans h.size, (Put.one h.heap i u).heap⟩
theorem Put.cs {w w' : World} {g : Nat} {t : TypeId} {cs cs' : Array Value} (h : Put w w' g t cs) (e : cs = cs') : Put w w' g t cs' := e ▸ h
theorem put3 {w : World} {g : Nat} {t : TypeId} {x y z : Value} (h : w.heap[g]? = some (.cells #[x, y, z] t (0, 0))) (a b c : Value) :
    Put w (((w.setCell ⟨g, 0, none⟩ a).setCell ⟨g, 1, none⟩ b).setCell ⟨g, 2, none⟩ c) g t #[a, b, c] := (((Put.one h 0 a).next 1 b).next 2 c).cs (by simp)
theorem put6 {w : World} {g : Nat} {t : TypeId} {x y z x' y' z' : Value} (h : w.heap[g]? = some (.cells #[x, y, z, x', y', z'] t (0, 0))) (a b c d e f : Value) :
    Put w ((((((w.setCell ⟨g, 0, none⟩ a).setCell ⟨g, 1, none⟩ b).setCell ⟨g, 2, none⟩ c).setCell ⟨g, 3, none⟩ d).setCell ⟨g, 4, none⟩ e).setCell ⟨g, 5, none⟩ f) g t #[a, b, c, d, e, f] :=
  ((((((Put.one h 0 a).next 1 b).next 2 c).next 3 d).next 4 e).next 5 f).cs (by simp)
def OwnG (w : World) (S : Nat → Prop) (u : Value) (G : GM) : Prop := ∃ v r s, u = .agg #[v, .float .f32 r, .float .f32 s] ∧ OwnC w S 77 4 v G.n (G.L.map D1.f) ∧ FV .f32 r G.s ∧ FV .f32 s G.d
def OwnSS (w : World) (S : Nat → Prop) (v : Value) (Ls : List (List Nat)) : Prop := OwnC w S 29 1 v Ls.length (Ls.map D1.fs)
def OwnT (w : World) (S : Nat → Prop) (u : Value) (T : TM) : Prop := ∃ (vp vt : Value) (S1 S2 : Nat → Prop), u = .agg #[.int .i64 T.t, vp, vt] ∧ OwnF w 0 vp T.P ∧ (∀ k, vp.ownBlock = some k → S1 k) ∧ OwnSS w S2 vt T.Ls ∧
  (∀ k, S1 k → S k) ∧ (∀ k, S2 k → S k) ∧ (∀ k, S1 k → ¬ S2 k)
def OwnK (w : World) (S : Nat → Prop) (u : Value) (K : KM) : Prop := ∃ (v : Value) (r s : Nat) (vp vt : Value) (S1 S2 : Nat → Prop), u = .agg #[v, .float .f32 r, .float .f32 s, .int .i64 K.T.t, vp, vt] ∧
  OwnG w S1 (.agg #[v, .float .f32 r, .float .f32 s]) K.G ∧ OwnT w S2 (.agg #[.int .i64 K.T.t, vp, vt]) K.T ∧ (∀ k, S1 k → S k) ∧ (∀ k, S2 k → S k) ∧ (∀ k, S1 k → ¬ S2 k)
theorem OwnC.lay {w : World} {S : Nat → Prop} {t : TypeId} {v : Value} {n : Nat} {L : List Nat} (h : OwnC w S t 4 v n (L.map D1.f)) : RdLay w v n L := ⟨by have := h.length; rw [List.length_map] at this; omega, h.rd⟩
theorem OwnG.rd {w : World} {S : Nat → Prop} {u : Value} {G : GM} (h : OwnG w S u G) : RdG w u G := by
  obtain ⟨v, r, s, hu, h1, h2, h3⟩ := h
  exact ⟨v, r, s, hu, h1.lay, h2, h3⟩
theorem OwnT.rd {w : World} {S : Nat → Prop} {u : Value} {T : TM} (h : OwnT w S u T) : RdT w u T := by
  obtain ⟨vp, vt, S1, S2, hu, h1, _, h2, _⟩ := h
  exact ⟨vp, vt, hu, h1.rd, OwnC.rd h2⟩
theorem OwnK.rd {w : World} {S : Nat → Prop} {u : Value} {K : KM} (h : OwnK w S u K) : RdK w u K := by
  obtain ⟨v, r, s, vp, vt, S1, S2, hu, h1, h2, _⟩ := h
  exact ⟨v, r, s, vp, vt, hu, h1.rd, h2.rd⟩
theorem OwnG.chg {w w' : World} {S S' : Nat → Prop} {u : Value} {G : GM} (h : OwnG w S u G) (hc : Chg w w' S') (hd : ∀ k, S k → ¬ S' k) : OwnG w' S u G := by
  obtain ⟨v, r, s, hu, h1, h2, h3⟩ := h
  exact ⟨v, r, s, hu, h1.chg hc hd, h2, h3⟩
theorem OwnT.chg {w w' : World} {S S' : Nat → Prop} {u : Value} {T : TM} (h : OwnT w S u T) (hc : Chg w w' S') (hd : ∀ k, S k → ¬ S' k) : OwnT w' S u T := by
  obtain ⟨vp, vt, S1, S2, hu, h1, h2, h3, h4, h5, h6⟩ := h
  exact ⟨vp, vt, S1, S2, hu, h1.chg hc fun k hk => hd k (h4 k (h2 k hk)), h2, OwnC.chg h3 hc fun k hk => hd k (h5 k hk), h4, h5, h6⟩
theorem OwnK.chg {w w' : World} {S S' : Nat → Prop} {u : Value} {K : KM} (h : OwnK w S u K) (hc : Chg w w' S') (hd : ∀ k, S k → ¬ S' k) : OwnK w' S u K := by
  obtain ⟨v, r, s, vp, vt, S1, S2, hu, h1, h2, h3, h4, h5⟩ := h
  exact ⟨v, r, s, vp, vt, S1, S2, hu, h1.chg hc fun k hk => hd k (h3 k hk), h2.chg hc fun k hk => hd k (h4 k hk), h3, h4, h5⟩
theorem OwnG.kept {w w' : World} {S : Nat → Prop} {u : Value} {G : GM} (h : OwnG w S u G) (hb : Below w.heap.size w w') : OwnG w' S u G := h.chg (Chg.of_below hb fun _ => False) fun _ _ => id
theorem OwnT.kept {w w' : World} {S : Nat → Prop} {u : Value} {T : TM} (h : OwnT w S u T) (hb : Below w.heap.size w w') : OwnT w' S u T := h.chg (Chg.of_below hb fun _ => False) fun _ _ => id
theorem OwnK.kept {w w' : World} {S : Nat → Prop} {u : Value} {K : KM} (h : OwnK w S u K) (hb : Below w.heap.size w w') : OwnK w' S u K := h.chg (Chg.of_below hb fun _ => False) fun _ _ => id

end Go.Proofs.YtjbaebgdebcipaaGreatDoor
