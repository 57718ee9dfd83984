/- Walks: R8Gather: where its loop stands. -/
import Derived.Test.YthacadbdncfocaaGr0
namespace Go.Proofs.Ythacadbdncfocaa
open Go Go.RowKit

/-- Where the loop of R8Gather stands: gb = the gather that is built, the source at w.heap.size + 1, the result at w.heap.size. -/
structure GaS (w wq : World) (gb : Nat) (ad : Option Addr) (n c : Nat) (t : Int) (T : Nat) (vp vt : Value) (ps : List Int) (zss : List (List Int)) : Prop where
  bel : Below w.heap.size w wq
  s : Src wq (w.heap.size + 1) ad n c t
  r : wq.heap[w.heap.size]? = some (.cells #[.int .i64 0, .slice none 0 0, .slice none 0 0] 44 (0, 0))
  p : wq.heap[gb]? = some (.cells #[.int .i64 T, vp, vt] 44 (0, 0))
  op : OwnF wq (w.heap.size + 2) vp (ps.map hV)
  np : ∀ k, vp.ownBlock = some k → k ≠ gb
  ot : ∃ S : Nat → Prop, OwnSS wq S vt (zss.map (List.map qv)) ∧ ∀ k, S k → w.heap.size + 2 ≤ k ∧ k < wq.heap.size ∧ k ≠ gb ∧ vp.ownBlock ≠ some k
  lt : w.heap.size + 1 < gb
/-- A place more. -/
theorem GaS.push {w wi w7 w9 : World} {gb : Nat} {ad : Option Addr} {n c : Nat} {t t' : Int} {T : Nat} {vp vt v' : Value} {ps ps' : List Int} {zss : List (List Int)} (h : GaS w wi gb ad n c t T vp vt ps zss) (hc : Chg wi w7 (fun k => k = w.heap.size + 1)) (hs : Src w7 (w.heap.size + 1) ad n c t') (O : Obj)
    (o9 : OwnF w9 (w.heap.size + 2) v' (ps'.map hV)) (g9 : (w7.alloc O).grownBy w9 vp.ownBlock) (l9 : v'.ownBlock = vp.ownBlock ∨ v'.ownBlock = some (w7.alloc O).heap.size) : GaS w (w9.setCell ⟨gb, 1, none⟩ v') gb ad n c t' T v' vt ps' zss ∧ w9.heap[gb]? = some (.cells #[.int .i64 T, vp, vt] 44 (0, 0)) := by
  have l1 := h.lt
  have hr := (Array.getElem?_eq_some_iff.1 h.r).1
  have hp := (Array.getElem?_eq_some_iff.1 h.p).1
  have hz := hc.size
  have hv : ∀ k, vp.ownBlock = some k → w.heap.size + 2 ≤ k ∧ k < wi.heap.size := fun k hk => h.op.lt hk
  have xa : Ext w7 (w7.alloc O) := (Below.refl _ _).alloc (Nat.le_refl _) _
  have hza : (w7.alloc O).heap.size = w7.heap.size + 1 := World.size_alloc _ _
  have C9 : Chg (w7.alloc O) w9 (fun k => vp.ownBlock = some k) := Chg.of_grown g9 fun k hk => hk
  have b9 : ∀ k, k < wi.heap.size → k ≠ w.heap.size + 1 → vp.ownBlock ≠ some k → w9.heap[k]? = wi.heap[k]? := fun k hk hkg hkf => by
    rw [C9.block k (by omega) hkf, xa.block k (by omega), hc.block k hk hkg]
  have hp9 := (b9 gb hp (by omega) (fun e => h.np _ e rfl)).trans h.p
  have P := Put.one hp9 1 v'
  have hs7 := hs.lt
  have s9 : Src w9 (w.heap.size + 1) ad n c t' := hs.kept (by rw [C9.block _ (by omega) fun e => by have := (hv _ e).1; omega, xa.block _ (by omega)])
  have B7 : Below w.heap.size w w7 := Below.chg h.bel hc (fun k hk => by omega) h.bel.size
  have z9 := C9.size
  have B9 : Below w.heap.size w w9 := Below.chg (B7.trans (xa.mono B7.size)) C9 (fun k hk => by have := (hv k hk).1; omega) (by have := B7.size; omega)
  have np' : ∀ k, v'.ownBlock = some k → k ≠ gb := fun k hk => by
    rcases l9 with l9 | l9
    · rw [l9] at hk; exact h.np k hk
    · rw [l9] at hk; cases hk; omega
  obtain ⟨S, hS, hS2⟩ := h.ot
  have ot7 : OwnSS w7 S vt (zss.map (List.map qv)) := OwnC.chg hS hc fun k hk e => by have := (hS2 k hk).1; omega
  have ot9 : OwnSS w9 S vt (zss.map (List.map qv)) := OwnC.chg (OwnC.kept ot7 xa) C9 fun k hk e => (hS2 k hk).2.2.2 e
  have otP : OwnSS (w9.setCell ⟨gb, 1, none⟩ v') S vt (zss.map (List.map qv)) := OwnC.chg ot9 P.chg fun k hk e => (hS2 k hk).2.2.1 e
  refine ⟨⟨Below.chg B9 P.chg (fun k hk => by omega) B9.size, s9.kept (P.chg.block _ s9.lt (by omega)), (P.chg.block _ (by omega) (by omega)).trans ((b9 _ hr (by omega) fun e => by have := (hv _ e).1; omega).trans h.r),
    (P.cs (cs' := #[.int .i64 T, v', vt]) (by simp)).heap, o9.chg P.chg fun k hk e => np' k hk e, np', ⟨S, otP, fun k hk => ?_⟩, l1⟩, hp9⟩
  obtain ⟨k1, k2, k3, k4⟩ := hS2 k hk
  have zP := P.chg.size
  refine ⟨k1, by omega, k3, fun e => ?_⟩
  rcases l9 with l9 | l9
  · rw [l9] at e; exact k4 e
  · rw [l9] at e; have := Option.some.inj e; omega
theorem GaS.chg {w wc wr : World} {gb : Nat} {ad : Option Addr} {n c : Nat} {t t' : Int} {T : Nat} {vp vt : Value} {ps : List Int} {zss : List (List Int)} (h : GaS w wc gb ad n c t T vp vt ps zss) (hc : Chg wc wr (fun k => k = w.heap.size + 1)) (hs : Src wr (w.heap.size + 1) ad n c t') : GaS w wr gb ad n c t' T vp vt ps zss := by
  have hr := (Array.getElem?_eq_some_iff.1 h.r).1
  have hp := (Array.getElem?_eq_some_iff.1 h.p).1
  have hl := h.lt
  obtain ⟨S, hS, hS2⟩ := h.ot
  have hz := hc.size
  refine ⟨Below.chg h.bel hc (fun k hk => by omega) h.bel.size, hs, (hc.block _ hr (by omega)).trans h.r, (hc.block _ hp (by omega)).trans h.p, h.op.chg hc (fun k hk e => by have := (h.op.lt hk).1; omega), h.np, ⟨S, OwnC.chg hS hc (fun k hk e => by have := (hS2 k hk).1; omega), fun k hk => ?_⟩, hl⟩
  obtain ⟨k1, k2, k3, k5⟩ := hS2 k hk
  exact ⟨k1, by omega, k3, k5⟩
/-- A trace more: S = the blocks of the traces ahead of it, X = where the new one begins. -/
theorem GaS.row {w wr w9 : World} {gb : Nat} {ad : Option Addr} {n c : Nat} {t : Int} {T : Nat} {vp vt v' : Value} {ps : List Int} {zss zss' : List (List Int)} (S : Nat → Prop) (X : Nat) (h : GaS w wr gb ad n c t T vp vt ps zss) (hS2 : ∀ k, S k → w.heap.size + 2 ≤ k ∧ k < X ∧ k ≠ gb ∧ vp.ownBlock ≠ some k) (hv : ∀ k, vt.ownBlock = some k → S k) (hX : X ≤ wr.heap.size) (hX2 : w.heap.size + 2 ≤ X) (hgX : gb < X) (hpX : ∀ k, vp.ownBlock = some k → k < X) (O : Obj)
    (o9 : OwnSS w9 (fun k => S k ∨ (X ≤ k ∧ k < w9.heap.size)) v' (zss'.map (List.map qv))) (g9 : (wr.alloc O).grownBy w9 vt.ownBlock) : GaS w (w9.setCell ⟨gb, 2, none⟩ v') gb ad n c t T vp v' ps zss' ∧ w9.heap[gb]? = some (.cells #[.int .i64 T, vp, vt] 44 (0, 0)) := by
  have l1 := h.lt
  have hr := (Array.getElem?_eq_some_iff.1 h.r).1
  have hp := (Array.getElem?_eq_some_iff.1 h.p).1
  have xa : Ext wr (wr.alloc O) := (Below.refl _ _).alloc (Nat.le_refl _) _
  have hza : (wr.alloc O).heap.size = wr.heap.size + 1 := World.size_alloc _ _
  have C9 : Chg (wr.alloc O) w9 (fun k => vt.ownBlock = some k) := Chg.of_grown g9 fun k hk => hk
  have b9 : ∀ k, k < wr.heap.size → ¬ S k → w9.heap[k]? = wr.heap[k]? := fun k hk hn => by
    rw [C9.block k (by omega) fun e => hn (hv k e), xa.block k hk]
  have hp9 := (b9 gb hp fun e => (hS2 _ e).2.2.1 rfl).trans h.p
  have P := Put.one hp9 2 v'
  have hs7 := h.s.lt
  have z9 := C9.size
  have s9 : Src w9 (w.heap.size + 1) ad n c t := h.s.kept (b9 _ hs7 fun e => by have := (hS2 _ e).1; omega)
  have B9 : Below w.heap.size w w9 := Below.chg (h.bel.trans (xa.mono h.bel.size)) C9 (fun k hk => by have := (hS2 k (hv k hk)).1; omega) (by have := h.bel.size; omega)
  have op9 : OwnF w9 (w.heap.size + 2) vp (ps.map hV) := (h.op.kept xa).chg C9 fun k hk e => (hS2 k (hv k e)).2.2.2 hk
  have otP := OwnC.chg o9 P.chg fun k hk e => by
    rcases hk with hk | hk
    · exact (hS2 k hk).2.2.1 e
    · omega
  have zP := P.chg.size
  refine ⟨⟨Below.chg B9 P.chg (fun k hk => by omega) B9.size, s9.kept (P.chg.block _ s9.lt (by omega)), (P.chg.block _ (by omega) (by omega)).trans ((b9 _ hr fun e => by have := (hS2 _ e).1; omega).trans h.r),
    (P.cs (cs' := #[.int .i64 T, vp, v']) (by simp)).heap, op9.chg P.chg fun k hk e => h.np k hk e, h.np, ⟨_, otP, fun k hk => ?_⟩, l1⟩, hp9⟩
  rcases hk with hk | hk
  · obtain ⟨k1, k2, k3, k4⟩ := hS2 k hk
    exact ⟨k1, by omega, k3, k4⟩
  · exact ⟨by omega, by omega, by omega, fun e => by have := hpX k e; omega⟩
end Go.Proofs.Ythacadbdncfocaa
