/- Walks on a seat of gathers: a gather that is built field by field; the gather of some traces. -/
import Derived.Test.YthacadbdncfocaaGr2
namespace Go.Proofs.Ythacadbdncfocaa
open Go Go.RowKit

/-- The gather that is built lies in block gb; what it leads to lies behind it. -/
structure GO (w0 wq : World) (gb : Nat) (t : Int) (vp vt : Value) (P : List Nat) (Ls : List (List Nat)) : Prop where
  bel : Below gb w0 wq
  p : wq.heap[gb]? = some (.cells #[.int .i64 t, vp, vt] 44 (0, 0))
  op : OwnF wq (gb + 1) vp P
  ot : ∃ S : Nat → Prop, OwnSS wq S vt Ls ∧ ∀ k, S k → gb < k ∧ k < wq.heap.size ∧ vp.ownBlock ≠ some k
theorem GO.lt {w0 wq : World} {gb : Nat} {t : Int} {vp vt : Value} {P : List Nat} {Ls : List (List Nat)} (h : GO w0 wq gb t vp vt P Ls) : gb < wq.heap.size := (Array.getElem?_eq_some_iff.1 h.p).1
/-- A gather that was just laid. -/
theorem GO.fresh (w0 : World) (t : Int) : GO w0 (w0.alloc (.cells #[.int .i64 t, .slice none 0 0, .slice none 0 0] 44)) w0.heap.size t (.slice none 0 0) (.slice none 0 0) [] [] :=
  ⟨(Below.refl _ _).alloc (Nat.le_refl _) _, alloc_new _ _, OwnF.nil _ _, ⟨fun _ => False, ⟨[], rfl, World.ownsRow_nil _ 0 _ 1, (fun k hk => by cases hk), (fun j hj => by cases hj), (fun i j k hi => by cases hi), (fun j k hj => by cases hj)⟩, fun k hk => hk.elim⟩⟩
/-- A place more. -/
theorem GO.place {w0 wi w8 w9 : World} {gb : Nat} {t : Int} {vp vt v' : Value} {P P' : List Nat} {Ls : List (List Nat)} (h : GO w0 wi gb t vp vt P Ls) (x : Ext wi w8) (o9 : OwnF w9 (gb + 1) v' P') (g9 : w8.grownBy w9 vp.ownBlock) (l9 : v'.ownBlock = vp.ownBlock ∨ v'.ownBlock = some w8.heap.size) :
    GO w0 (w9.setCell ⟨gb, 1, none⟩ v') gb t v' vt P' Ls ∧ w9.heap[gb]? = some (.cells #[.int .i64 t, vp, vt] 44 (0, 0)) := by
  have hp := h.lt
  have hv : ∀ k, vp.ownBlock = some k → gb + 1 ≤ k ∧ k < wi.heap.size := fun k hk => h.op.lt hk
  have C9 : Chg w8 w9 (fun k => vp.ownBlock = some k) := Chg.of_grown g9 fun k hk => hk
  have z8 := x.size
  have z9 := C9.size
  have hp9 : w9.heap[gb]? = some (.cells #[.int .i64 t, vp, vt] 44 (0, 0)) := by
    rw [C9.block gb (by omega) (fun e => by have := (hv _ e).1; omega), x.block gb hp]; exact h.p
  have Pt := Put.one hp9 1 v'
  obtain ⟨S, hS, hS2⟩ := h.ot
  have ot9 : OwnSS w9 S vt Ls := OwnC.chg (OwnC.kept hS x) C9 fun k hk e => (hS2 k hk).2.2 e
  have otP := OwnC.chg ot9 Pt.chg fun k hk e => by have := (hS2 k hk).1; omega
  have zP := Pt.chg.size
  have B9 : Below gb w0 w9 := Below.chg (h.bel.trans (Below.mono x (Nat.le_of_lt hp))) C9 (fun k hk => by have := (hv k hk).1; omega) (by omega)
  refine ⟨⟨Below.chg B9 Pt.chg (fun k hk => by omega) (by omega), (Pt.cs (cs' := #[.int .i64 t, v', vt]) (by simp)).heap, o9.chg Pt.chg fun k hk e => by have := (o9.lt hk).1; omega, ⟨S, otP, fun k hk => ?_⟩⟩, hp9⟩
  obtain ⟨k1, k2, k3⟩ := hS2 k hk
  refine ⟨k1, by omega, fun e => ?_⟩
  rcases l9 with l9 | l9
  · rw [l9] at e; exact k3 e
  · rw [l9] at e; have := Option.some.inj e; omega
/-- A trace more. -/
theorem GO.row {w0 wi w8 w9 : World} {gb : Nat} {t : Int} {vp vt v' : Value} {P : List Nat} {Ls Ls' : List (List Nat)} (S : Nat → Prop) (h : GO w0 wi gb t vp vt P Ls) (hS2 : ∀ k, S k → gb < k ∧ k < wi.heap.size ∧ vp.ownBlock ≠ some k) (hv : ∀ k, vt.ownBlock = some k → S k) (x : Ext wi w8)
    (o9 : OwnSS w9 (fun k => S k ∨ (wi.heap.size ≤ k ∧ k < w9.heap.size)) v' Ls') (g9 : w8.grownBy w9 vt.ownBlock) :
    GO w0 (w9.setCell ⟨gb, 2, none⟩ v') gb t vp v' P Ls' ∧ w9.heap[gb]? = some (.cells #[.int .i64 t, vp, vt] 44 (0, 0)) := by
  have hp := h.lt
  have C9 : Chg w8 w9 (fun k => vt.ownBlock = some k) := Chg.of_grown g9 fun k hk => hk
  have z8 := x.size
  have z9 := C9.size
  have hp9 : w9.heap[gb]? = some (.cells #[.int .i64 t, vp, vt] 44 (0, 0)) := by
    rw [C9.block gb (by omega) (fun e => by have := (hS2 _ (hv _ e)).1; omega), x.block gb hp]; exact h.p
  have Pt := Put.one hp9 2 v'
  have zP := Pt.chg.size
  have B9 : Below gb w0 w9 := Below.chg (h.bel.trans (Below.mono x (Nat.le_of_lt hp))) C9 (fun k hk => by have := (hS2 _ (hv _ hk)).1; omega) (by omega)
  have op9 : OwnF w9 (gb + 1) vp P := (h.op.kept x).chg C9 fun k hk e => (hS2 k (hv k e)).2.2 hk
  have otP := OwnC.chg o9 Pt.chg fun k hk e => by
    rcases hk with hk | hk
    · have := (hS2 k hk).1; omega
    · omega
  refine ⟨⟨Below.chg B9 Pt.chg (fun k hk => by omega) (by omega), (Pt.cs (cs' := #[.int .i64 t, vp, v']) (by simp)).heap, op9.chg Pt.chg fun k hk e => by have := (op9.lt hk).1; omega, ⟨_, otP, fun k hk => ?_⟩⟩, hp9⟩
  rcases hk with hk | hk
  · obtain ⟨k1, k2, k3⟩ := hS2 k hk
    exact ⟨k1, by omega, k3⟩
  · exact ⟨by omega, by omega, fun e => by have := (h.op.lt e).2; omega⟩

def pkP (P : List Nat) (js : List Nat) : List Nat := js.map fun j => P.getD j 0
def pkL (Ls : List (List Nat)) (js : List Nat) : List (List Nat) := js.map (rowAt Ls)
def pkT (T : TM) (js : List Nat) : TM := ⟨T.t, pkP T.P js, pkL T.Ls js⟩
def RdJ (w : World) (v : Value) (js : List Nat) : Prop := RdP w v js.length fun j u => u = .int .i64 (js.getD j 0 : Nat)
theorem take_succJ (js : List Nat) (j m : Nat) (h : j < js.length) (hm : js.getD j 0 = m) : js.take (j + 1) = js.take j ++ [m] := by
  rw [List.take_succ_eq_append_getElem h]
  rw [List.getD_eq_getElem?_getD, List.getElem?_eq_getElem h] at hm
  simp only [Option.getD_some] at hm
  rw [hm]
theorem pkT_small (T : TM) (js : List Nat) (h1 : js.length ≤ 16) (hr : ∀ j, (rowAt T.Ls j).length ≤ 64) : (pkT T js).small := by
  refine ⟨by simp [pkT, pkP]; omega, by simp [pkT, pkL]; omega, fun j hj => ?_⟩
  have hj' : j < js.length := by simpa [pkT, pkL] using hj
  have : rowAt (pkT T js).Ls j = rowAt T.Ls (js.getD j 0) := by
    simp [pkT, pkL, rowAt, List.getD_eq_getElem?_getD, List.getElem?_map, List.getElem?_eq_getElem hj']
  rw [this]
  have := hr (js.getD j 0)
  omega
def rowT (L : List Nat) (f : FuncId) (args : Array Value) (w : World) (u : Value) (w'' : World) : Prop := OwnF w'' w.heap.size u L
theorem ownF_exists (w : World) (v : Value) (L : List Nat) (h : RdF w v L) (hl : L.length ≤ maxLen) : ∃ u w'', OwnF w'' w.heap.size u L ∧ Ext w w'' := by
  obtain ⟨a, c, rfl, hc, hz, hcell⟩ := h.opened
  obtain ⟨new, hn, hnew⟩ := pick_list (P := fun j r => FV .f32 r (L.getD j 0)) L.length (fun j hj => by
    obtain ⟨b, o, r, e, h1, h2⟩ := hcell j hj
    exact ⟨r, h2⟩)
  refine ⟨.slice (some ⟨w.heap.size, 0, none⟩) L.length L.length, w.alloc (.cells (new.map (Value.float .f32)).toArray 27), ⟨new, hn, fun j hj => hnew j hj, ?_⟩, (Below.refl _ _).alloc (Nat.le_refl _) _⟩
  exact ⟨by simp [hn], .inr ⟨w.heap.size, L.length, _, rfl, Nat.le_refl _, alloc_new _ _, Nat.le_refl _, hl, by simp [hn], by rw [Nat.mul_one]; exact List.take_of_length_le (by simp [hn])⟩⟩
def noT (f : FuncId) (args : Array Value) (w : World) (u : Value) (w'' : World) : Prop := False
end Go.Proofs.Ythacadbdncfocaa
