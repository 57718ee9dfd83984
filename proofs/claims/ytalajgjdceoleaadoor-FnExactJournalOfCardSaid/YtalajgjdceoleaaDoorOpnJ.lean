/- Lists of strings that came in. -/
import Derived.Test.YtalajgjdceoleaaDoorJ5
import Derived.Test.YtalajgjdceoleaaDoorOpn
namespace Go.Proofs.YtalajgjdceoleaaDoor
open Go.ChangeShapes Go.WideShapes Go.ChangeAt Go.RowKit Go.Deep
section
variable {H : Type} {enc : TypeId × Value → H} {w : World} {base : Nat} {spare : Nat → Bool} {held : Bool}
theorem pick_lines {p : Nat → ByteArray → Prop} (n : Nat) (h : ∀ j, j < n → ∃ s, p j s) : ∃ L : List ByteArray, L.length = n ∧ ∀ j, j < n → p j (lnAt L j) := by
  induction n with
  | zero => exact ⟨[], rfl, fun j hj => by cases hj⟩
  | succ n ih =>
    obtain ⟨L, hl, hp⟩ := ih fun j hj => h j (by omega)
    obtain ⟨s, hs⟩ := h n (by omega)
    refine ⟨L ++ [s], by simp [hl], fun j hj => ?_⟩
    by_cases e : j = n
    · subst e
      have : lnAt (L ++ [s]) j = s := by simp [lnAt, List.getD_eq_getElem?_getD, ← hl]
      rw [this]; exact hs
    · have : lnAt (L ++ [s]) j = lnAt L j := by
        simp only [lnAt, List.getD_eq_getElem?_getD]
        rw [List.getElem?_append_left (by omega)]
      rw [this]; exact hp j (by omega)
theorem addr_flat {w : World} {x : Addr} {n : Nat} {u u0 : Value} (h : w.cell? (x.add n) = some u) (h0 : w.cell? (x.add 0) = some u0) : ∃ b o, x = ⟨b, o, none⟩ ∧ w.cell? ⟨b, o + n, none⟩ = some u := by
  obtain ⟨b, o, s⟩ := x
  have h3 := World.cell?_spot h0
  have hs : s = none := by simpa [Addr.add] using h3
  subst hs
  exact ⟨b, o, rfl, by rw [← Addr.add_lit]; exact h⟩
theorem open_lines {a : Option Addr} {len0 cap0 : Nat} {d : DataW H} {p : List MemPlace} (h : DataW.Trod enc Tryd.prog w base spare held 22 (.slice a len0 cap0) d p) :
    ∃ L : List ByteArray, RdStr w (.slice a len0 cap0) L ∧ L.length ≤ maxLen ∧ ∀ j, j < L.length → (lnAt L j).size ≤ maxLen := by
  obtain ⟨fuel, hf⟩ := h
  have hc : Tryd.prog.cellsOf 9 = 1 := by kernel_rfl
  rcases open_slice1 Tryd.underlying22 hc hf with ⟨hcs, _⟩ | ⟨x, len, cap, m, n', V, D, Pl, hcs, _, hl, hm, hmm, _, hx⟩
  · simp [Value.cells] at hcs
    obtain ⟨rfl, rfl, rfl⟩ := hcs
    exact ⟨[], ⟨none, 0, rfl, Nat.le_refl _, fun _ => rfl, fun j hj => by cases hj⟩, Nat.zero_le _, fun j hj => by cases hj⟩
  · simp [Value.cells] at hcs
    obtain ⟨rfl, rfl, rfl⟩ := hcs
    have hlm : len0 ≤ m := by rw [hmm]; split <;> omega
    obtain ⟨L, hL, hp⟩ := pick_lines (p := fun j s => V j = .string s ∧ s.size ≤ maxLen) len0 fun j hj => by
      obtain ⟨s, hs, -, hsz⟩ := DataW.trod_string Tryd.underlying9 (hx j (by omega)).2
      simp at hs
      exact ⟨s, hs, hsz⟩
    refine ⟨L, ⟨some x, cap0, by rw [hL], by omega, (fun h => by cases h), fun j hj => ?_⟩, by omega, fun j hj => (hp j (by omega)).2⟩
    obtain ⟨b, o, rfl, hcell⟩ := addr_flat (hx j (by omega)).1 (hx 0 (by omega)).1
    exact ⟨b, o, _, rfl, hcell, (hp j (by omega)).1⟩
end
end Go.Proofs.YtalajgjdceoleaaDoor
