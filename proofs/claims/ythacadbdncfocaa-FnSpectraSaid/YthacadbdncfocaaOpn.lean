/- Arguments that came in, read as lists. -/
import Derived.Test.YthacadbdncfocaaMem
import Derived.Deep.Slices
import Derived.ProofKit
import Derived.OpenShut
import Derived.ShutString
import Derived.ChangeOld
import Derived.Below
namespace Go.Proofs.Ythacadbdncfocaa
open Go.ChangeShapes Go.WideShapes Go.ChangeAt Go.RowKit Go.Deep
section
variable {H : Type} {enc : TypeId × Value → H} {P : Program} {w : World} {base : Nat} {spare : Nat → Bool} {held : Bool}
theorem trod_float {e : TypeId} {k : FloatKind} {n : Nat} {v : Value} {y : DataW H × List MemPlace} (he : P.underlying e = some (.float k)) (h : DataW.trod enc P w base spare held n e [v] = some y) :
    ∃ b, v = .float k b ∧ (Lit.float k b).wf = true := by
  cases n with
  | zero => simp [DataW.trod] at h
  | succ n =>
    simp only [DataW.trod, he] at h
    cases v <;> simp at h
    obtain ⟨⟨rfl, hw⟩, _⟩ := h
    exact ⟨_, rfl, hw⟩
theorem wf_float {k : FloatKind} {b : Nat} (h : (Lit.float k b).wf = true) : b < 2 ^ k.format.width := by
  cases k
  · rw [width32]; simpa [Lit.wf] using h
  · rw [width64]; simpa [Lit.wf] using h
/-- A slice of floats that came in. -/
theorem open_floats {t e : TypeId} {a : Option Addr} {len cap : Nat} {d : DataW H} {ps : List MemPlace} (ht : P.underlying t = some (.slice e)) (he : P.underlying e = some (.float .f32)) (hc : P.cellsOf e = 1)
    (h : DataW.Trod enc P w base spare held t (.slice a len cap) d ps) : ∃ L, L.length = len ∧ len ≤ maxLen ∧ RdF w (.slice a len cap) L := by
  obtain ⟨fuel, hf⟩ := h
  rcases open_slice1 ht hc hf with ⟨hcs, _⟩ | ⟨x, len', cap', m, n, V, D, Pl, hcs, _, hl, hm, hmm, _, hx⟩
  · simp [Value.cells] at hcs
    obtain ⟨rfl, rfl, rfl⟩ := hcs
    exact ⟨[], rfl, Nat.zero_le _, none, 0, rfl, Nat.le_refl _, fun _ => rfl, fun j hj => by cases hj⟩
  · simp [Value.cells] at hcs
    obtain ⟨rfl, rfl, rfl⟩ := hcs
    have hlm : len ≤ m := by rw [hmm]; split <;> omega
    have hall : ∀ j, j < len → ∃ b, w.cell? (x.add j) = some (.float .f32 b) ∧ b < 2 ^ FloatKind.f32.format.width := fun j hj => by
      obtain ⟨h1, h2⟩ := hx j (by omega)
      obtain ⟨b, hb, hw⟩ := trod_float he h2
      exact ⟨b, by rw [← hb]; exact h1, wf_float hw⟩
    obtain ⟨bits, hlb, hb⟩ := pick_list len hall
    refine ⟨bits.map (can .f32), by simp [hlb], by omega, some x, cap, by simp [hlb], by simp [hlb]; omega, fun h => (by cases h), fun j hj => ?_⟩
    simp only [List.length_map, hlb] at hj
    obtain ⟨h1, h2⟩ := hb j hj
    obtain ⟨b, o, s⟩ := x
    have hs : s = none := by
      have h3 := World.cell?_spot (hb 0 (by omega)).1
      simpa [Addr.add] using h3
    subst hs
    refine ⟨b, o, _, rfl, by rw [← Addr.add_lit]; exact h1, _, rfl, ?_⟩
    have e1 : (bits.map (can .f32)).getD j 0 = can .f32 (bits.getD j 0) := by
      simp [List.getD_eq_getElem?_getD, List.getElem?_eq_getElem (show j < bits.length by omega)]
    rw [e1]
    exact FV.can h2
end
end Go.Proofs.Ythacadbdncfocaa
