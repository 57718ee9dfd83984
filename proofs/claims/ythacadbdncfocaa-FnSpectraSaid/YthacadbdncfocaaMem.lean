/- Slices that are read, and slices that a call has made, as lists. -/
import Derived.Test.YthacadbdncfocaaFl
namespace Go.Proofs.Ythacadbdncfocaa
open Go Go.RowKit

theorem bcell {W w1 : World} (hb : Below W.heap.size W w1) : (∀ b o, b < W.heap.size → w1.cell? ⟨b, o, none⟩ = W.cell? ⟨b, o, none⟩) ∧ (∀ b o, b < W.heap.size → w1.frozen? ⟨b, o, none⟩ = W.frozen? ⟨b, o, none⟩) :=
  ⟨fun b o h => hb.cell (p := ⟨b, o, none⟩) h, fun b o h => hb.frozen (p := ⟨b, o, none⟩) h⟩
theorem block_lt {w : World} {b o : Nat} {v : Value} (h : w.cell? ⟨b, o, none⟩ = some v) : b < w.heap.size := World.block_lt_of_cell? w ⟨b, o, none⟩ h

theorem cell_new (w : World) (u : Value) (t : TypeId) : (w.alloc (.cells #[u] t)).cell? ⟨w.heap.size, 0, none⟩ = some u := by
  rw [World.cell?_alloc_at _ _ _ _ rfl]; rfl
/-- The slice v has n elements of one cell each; of the one at place j 'R j' holds. -/
def RdP (w : World) (v : Value) (n : Nat) (R : Nat → Value → Prop) : Prop :=
  ∃ a c, v = .slice a n c ∧ n ≤ c ∧ (a = none → c = 0) ∧ ∀ j, j < n → ∃ b o u, a = some ⟨b, o, none⟩ ∧ w.cell? ⟨b, o + j, none⟩ = some u ∧ R j u
theorem RdP.mono {w w' : World} {v : Value} {n : Nat} {R : Nat → Value → Prop} (h : RdP w v n R) (hb : Below w.heap.size w w') : RdP w' v n R := by
  obtain ⟨a, c, hv, hc, hz, hr⟩ := h
  refine ⟨a, c, hv, hc, hz, fun j hj => ?_⟩
  obtain ⟨b, o, u, ha, hu, hR⟩ := hr j hj
  exact ⟨b, o, u, ha, by rw [hb.cell (p := ⟨b, o + j, none⟩) (block_lt hu)]; exact hu, hR⟩
theorem RdP.imp {w : World} {v : Value} {n : Nat} {R R' : Nat → Value → Prop} (h : RdP w v n R) (hi : ∀ j u, j < n → R j u → R' j u) : RdP w v n R' := by
  obtain ⟨a, c, hv, hc, hz, hr⟩ := h
  exact ⟨a, c, hv, hc, hz, fun j hj => let ⟨b, o, u, ha, hu, hR⟩ := hr j hj; ⟨b, o, u, ha, hu, hi j u hj hR⟩⟩
/-- A list of floats, by their classes. -/
def IsF (k : FloatKind) (L : List Nat) (j : Nat) (u : Value) : Prop := ∃ r, u = .float k r ∧ FV k r (L.getD j 0)
def RdF (w : World) (v : Value) (L : List Nat) : Prop := RdP w v L.length (IsF .f32 L)
theorem RdF.mono {w w' : World} {v : Value} {L : List Nat} (h : RdF w v L) (hb : Below w.heap.size w w') : RdF w' v L := RdP.mono h hb
theorem RdF.drewN {w : World} {v : Value} {L : List Nat} (h : RdF w v L) (n : Nat) : RdF (w.drewN n) v L := h
theorem RdF.opened {w : World} {v : Value} {L : List Nat} (h : RdF w v L) :
    ∃ a c, v = .slice a L.length c ∧ L.length ≤ c ∧ (a = none → c = 0) ∧ ∀ j, j < L.length → ∃ b o r, a = some ⟨b, o, none⟩ ∧ w.cell? ⟨b, o + j, none⟩ = some (.float .f32 r) ∧ FV .f32 r (L.getD j 0) := by
  obtain ⟨a, c, hv, hc, hz, hr⟩ := h
  refine ⟨a, c, hv, hc, hz, fun j hj => ?_⟩
  obtain ⟨b, o, u, ha, hu, r, rfl, hf⟩ := hr j hj
  exact ⟨b, o, r, ha, hu, hf⟩
/-- A slice that is not empty, at its block. -/
theorem RdF.at_block {w : World} {v : Value} {L : List Nat} (h : RdF w v L) (hl : 0 < L.length) :
    ∃ b o c, v = .slice (some ⟨b, o, none⟩) L.length c ∧ L.length ≤ c ∧ b < w.heap.size ∧ ∀ j, j < L.length → ∃ r, w.cell? ⟨b, o + j, none⟩ = some (.float .f32 r) ∧ FV .f32 r (L.getD j 0) := by
  obtain ⟨a, c, rfl, hc, _, hr⟩ := h.opened
  obtain ⟨b, o, r, rfl, h0, _⟩ := hr 0 hl
  refine ⟨b, o, c, rfl, hc, block_lt h0, fun j hj => ?_⟩
  obtain ⟨b', o', r', e, hu, hf⟩ := hr j hj
  simp only [Option.some.injEq, Addr.mk.injEq, and_true] at e
  obtain ⟨rfl, rfl⟩ := e
  exact ⟨r', hu, hf⟩

theorem pick_list {P : Nat → Nat → Prop} : ∀ n, (∀ j, j < n → ∃ r, P j r) → ∃ bits : List Nat, bits.length = n ∧ ∀ j, j < n → P j (bits.getD j 0)
  | 0, _ => ⟨[], rfl, fun j hj => (by cases hj)⟩
  | n + 1, h => by
    obtain ⟨bits, hl, hb⟩ := pick_list n fun j hj => h j (by omega)
    obtain ⟨r, hr⟩ := h n (by omega)
    refine ⟨bits ++ [r], by simp [hl], fun j hj => ?_⟩
    by_cases h1 : j < n
    · rw [List.getD_eq_getElem?_getD, List.getElem?_append_left (by omega), ← List.getD_eq_getElem?_getD]
      exact hb j h1
    · obtain rfl : j = n := by omega
      rw [List.getD_eq_getElem?_getD, List.getElem?_append_right (by omega)]
      simp [hl, hr]
/-- A sum from zero on, in order. -/
def sumTo (k : FloatKind) (f : Nat → Nat) : Nat → Nat
  | 0 => 0
  | n + 1 => fop .add k (sumTo k f n) (f n)
theorem fv0 (k : FloatKind) : FV k 0 0 := by cases k <;> exact ⟨by decide, by decide +kernel⟩
theorem sumTo_cls (k : FloatKind) (f : Nat → Nat) (n : Nat) : Cls k (sumTo k f n) := by
  cases n with
  | zero => exact fv0 k
  | succ n => exact fop_cls
end Go.Proofs.Ythacadbdncfocaa
