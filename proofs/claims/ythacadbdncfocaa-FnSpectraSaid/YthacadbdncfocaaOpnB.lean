/- Byte slices that came in. -/
import Derived.Test.YthacadbdncfocaaOpn
namespace Go.Proofs.Ythacadbdncfocaa
open Go.ChangeShapes Go.WideShapes Go.ChangeAt Go.RowKit Go.Deep
/-- The slice v has n bytes. -/
def RdY (w : World) (v : Value) (n : Nat) : Prop := RdP w v n fun _ u => ∃ b : Int, (0 ≤ b ∧ b < 256) ∧ u = .int .u8 b
theorem RdY.mono {w w' : World} {v : Value} {n : Nat} (h : RdY w v n) (hb : Below w.heap.size w w') : RdY w' v n := RdP.mono h hb
theorem RdY.opened {w : World} {v : Value} {n : Nat} (h : RdY w v n) :
    ∃ a c, v = .slice a n c ∧ n ≤ c ∧ ∀ j, j < n → ∃ b o, a = some ⟨b, o, none⟩ ∧ b < w.heap.size ∧ ∃ y : Int, (0 ≤ y ∧ y < 256) ∧ w.cell? ⟨b, o + j, none⟩ = some (.int .u8 y) := by
  obtain ⟨a, c, hv, hc, -, hr⟩ := h
  refine ⟨a, c, hv, hc, fun j hj => ?_⟩
  obtain ⟨b, o, u, ha, hu, y, hy, rfl⟩ := hr j hj
  exact ⟨b, o, ha, block_lt hu, y, hy, hu⟩
section
variable {H : Type} {enc : TypeId × Value → H} {P : Program} {w : World} {base : Nat} {spare : Nat → Bool} {held : Bool}
theorem trod_byte {e : TypeId} {n : Nat} {v : Value} {y : DataW H × List MemPlace} (he : P.underlying e = some (.int .u8)) (h : DataW.trod enc P w base spare held n e [v] = some y) :
    ∃ b : Int, v = .int .u8 b ∧ (Lit.int .u8 b).wf = true := by
  cases n with
  | zero => simp [DataW.trod] at h
  | succ n =>
    simp only [DataW.trod, he] at h
    cases v <;> simp at h
    obtain ⟨⟨rfl, hw⟩, _⟩ := h
    exact ⟨_, rfl, hw⟩
theorem wf_byte {b : Int} (h : (Lit.int .u8 b).wf = true) : 0 ≤ b ∧ b < 256 := by
  simp [Lit.wf] at h
  have e1 : IntKind.u8.min = 0 := by decide
  have e2 : IntKind.u8.max = 255 := by decide
  rw [e1, e2] at h
  constructor <;> omega
theorem open_bytes {t e : TypeId} {a : Option Addr} {len cap : Nat} {d : DataW H} {ps : List MemPlace} (ht : P.underlying t = some (.slice e)) (he : P.underlying e = some (.int .u8)) (hc : P.cellsOf e = 1)
    (h : DataW.Trod enc P w base spare held t (.slice a len cap) d ps) : len ≤ maxLen ∧ RdY w (.slice a len cap) len := by
  obtain ⟨fuel, hf⟩ := h
  rcases open_slice1 ht hc hf with ⟨hcs, _⟩ | ⟨x, len', cap', m, n, V, D, Pl, hcs, _, hl, hm, hmm, _, hx⟩
  · simp [Value.cells] at hcs
    obtain ⟨rfl, rfl, rfl⟩ := hcs
    exact ⟨Nat.zero_le _, none, 0, rfl, Nat.le_refl _, fun _ => rfl, fun j hj => by cases hj⟩
  · simp [Value.cells] at hcs
    obtain ⟨rfl, rfl, rfl⟩ := hcs
    have hlm : len ≤ m := by rw [hmm]; split <;> omega
    refine ⟨by omega, some x, cap, rfl, by omega, fun h => (by cases h), fun j hj => ?_⟩
    obtain ⟨h1, h2⟩ := hx j (by omega)
    obtain ⟨b', hb', hw'⟩ := trod_byte he h2
    obtain ⟨b, o, s⟩ := x
    have hs : s = none := by
      have h3 := World.cell?_spot (hx 0 (by omega)).1
      simpa [Addr.add] using h3
    subst hs
    exact ⟨b, o, _, rfl, by rw [← Addr.add_lit]; exact h1, b', wf_byte hw', hb'⟩
end
end Go.Proofs.Ythacadbdncfocaa
