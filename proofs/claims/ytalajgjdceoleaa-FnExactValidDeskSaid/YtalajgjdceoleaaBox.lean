/- Boxes of six cells. -/
import Derived.Test.YtalajgjdceoleaaL7
namespace Go.Proofs.Ytalajgjdceoleaa
open Go Go.RowKit

/-- A block of six cells. -/
def Box6 (w : World) (g : Nat) (a b c d e f : Value) : Prop := g < w.heap.size ∧ w.cell? ⟨g, 0, none⟩ = some a ∧ w.cell? ⟨g, 1, none⟩ = some b ∧ w.cell? ⟨g, 2, none⟩ = some c ∧ w.cell? ⟨g, 3, none⟩ = some d ∧ w.cell? ⟨g, 4, none⟩ = some e ∧ w.cell? ⟨g, 5, none⟩ = some f
theorem Box6.mono {w w' : World} {g : Nat} {a b c d e f : Value} (h : Box6 w g a b c d e f) (hb : Below w.heap.size w w') : Box6 w' g a b c d e f := by
  obtain ⟨hg, h0, h1, h2, h3, h4, h5⟩ := h
  have hs := hb.size
  exact ⟨by omega, by rw [(bcell hb).1 _ _ hg]; exact h0, by rw [(bcell hb).1 _ _ hg]; exact h1, by rw [(bcell hb).1 _ _ hg]; exact h2, by rw [(bcell hb).1 _ _ hg]; exact h3, by rw [(bcell hb).1 _ _ hg]; exact h4, by rw [(bcell hb).1 _ _ hg]; exact h5⟩
theorem Box6.of {w : World} {g : Nat} {t : TypeId} {a b c d e f : Value} (h : w.heap[g]? = some (.cells #[a, b, c, d, e, f] t (0, 0))) : Box6 w g a b c d e f := by
  obtain ⟨⟨h0, h1, h2, h3, h4, h5⟩, -⟩ := blk6 h
  exact ⟨by rw [Array.getElem?_eq_some_iff] at h; exact h.1, h0, h1, h2, h3, h4, h5⟩
theorem Below.cur {B : Nat} {w w' w'' : World} (h : Below B w w') (e1 : w''.os = w'.os) (e2 : w''.tape = w'.tape) (e3 : w''.output = w'.output) (e4 : w''.heap = w'.heap) : Below B w w'' :=
  ⟨e1.trans h.os, e2.trans h.tape, e3.trans h.output, e4 ▸ h.size, fun k hk => by rw [e4]; exact h.block k hk⟩

theorem RdK.opened {w : World} {u : Value} {K : KM} (h : RdK w u K) : ∃ a c r s b d e f, u = .agg #[.slice a K.G.n c, .float .f32 r, .float .f32 s, .int .i64 K.T.t, .slice b K.T.P.length d, .slice e K.T.Ls.length f] := by
  obtain ⟨v, r, s, vp, vt, rfl, ⟨v1, r1, s1, hv1, hl, -, -⟩, ⟨v2, v3, hv2, hp, ht⟩⟩ := h
  simp only [Value.agg.injEq, Array.mk.injEq, List.cons.injEq, and_true] at hv1 hv2
  obtain ⟨rfl, -, -⟩ := hv1
  obtain ⟨-, rfl, rfl⟩ := hv2
  obtain ⟨a, c, rfl, -⟩ := hl.opened
  obtain ⟨b, d, rfl, -⟩ := hp.opened
  obtain ⟨e, f, rfl, -⟩ := ht.opened
  exact ⟨_, _, _, _, _, _, _, _, rfl⟩

theorem Box6.chg {w w' : World} {S : Nat → Prop} {g : Nat} {a b c d e f : Value} (h : Box6 w g a b c d e f) (hc : Chg w w' S) (hg : ¬ S g) : Box6 w' g a b c d e f := by
  obtain ⟨hlt, h0, h1, h2, h3, h4, h5⟩ := h
  have hs := hc.size
  have hk : ∀ i, w'.cell? ⟨g, i, none⟩ = w.cell? ⟨g, i, none⟩ := fun i => by simp only [World.cell?, hc.block g hlt hg]
  exact ⟨by omega, by rw [hk]; exact h0, by rw [hk]; exact h1, by rw [hk]; exact h2, by rw [hk]; exact h3, by rw [hk]; exact h4, by rw [hk]; exact h5⟩
end Go.Proofs.Ytalajgjdceoleaa
