/- Lists of frames that came in, read as lists. -/
import Derived.Test.YtpijiidbjcbdhaaOpn
import Derived.Test.YtpijiidbjcbdhaaFr1
namespace Go.Proofs.Ytpijiidbjcbdhaa
open Go.ChangeShapes Go.WideShapes Go.ChangeAt Go.RowKit Go.Deep
section
variable {H : Type} {enc : TypeId × Value → H} {w : World} {base : Nat} {spare : Nat → Bool} {held : Bool}

theorem trod_field {P : Program} {t : TypeId} {fs : Array Field} {fuel : Nat} {cs : List Value} {x : DataW H × List MemPlace} (ht : P.underlying t = some (.struct fs)) (h : DataW.trod enc P w base spare held fuel t cs = some x) (i : Nat) (e : TypeId) (off k : Nat)
    (hf : (fs[i]?).map (fun f => (f.type, f.offset)) = some (e, off)) (hk : P.cellsOf e = k) : ∃ n y, DataW.trod enc P w base spare held n e ((cs.drop off).take k) = some y := by
  obtain ⟨xs, n, -, -, -, hl, hg⟩ := DataW.trod_struct ht h
  cases hff : fs[i]? with
  | none => rw [hff] at hf; cases hf
  | some f =>
    rw [hff] at hf
    simp only [Option.map_some, Option.some.injEq, Prod.mk.injEq] at hf
    obtain ⟨rfl, rfl⟩ := hf
    subst hk
    have hi : i < xs.length := by rw [hl]; exact (Array.getElem?_eq_some_iff.1 hff).1
    exact ⟨n, xs[i], (hg i f hff).trans (List.getElem?_eq_getElem hi)⟩
theorem addr_flat {w : World} {x : Addr} {n : Nat} {u u0 : Value} (h : w.cell? (x.add n) = some u) (h0 : w.cell? (x.add 0) = some u0) : ∃ b o, x = ⟨b, o, none⟩ ∧ w.cell? ⟨b, o + n, none⟩ = some u := by
  obtain ⟨b, o, s⟩ := x
  have h3 := World.cell?_spot h0
  have hs : s = none := by simpa [Addr.add] using h3
  subst hs
  exact ⟨b, o, rfl, by rw [← Addr.add_lit]; exact h⟩
theorem pick_frames {p : Nat → FM → Prop} (n : Nat) (h : ∀ j, j < n → ∃ f, p j f) : ∃ Fs : List FM, Fs.length = n ∧ ∀ j, j < n → p j (frAt Fs j) := by
  induction n with
  | zero => exact ⟨[], rfl, fun j hj => by cases hj⟩
  | succ n ih =>
    obtain ⟨Fs, hl, hp⟩ := ih fun j hj => h j (by omega)
    obtain ⟨f, hf⟩ := h n (by omega)
    refine ⟨Fs ++ [f], by simp [hl], fun j hj => ?_⟩
    by_cases e : j = n
    · subst e
      have : frAt (Fs ++ [f]) j = f := by simp [frAt, List.getD_eq_getElem?_getD, ← hl]
      rw [this]; exact hf
    · have : frAt (Fs ++ [f]) j = frAt Fs j := by
        simp only [frAt, List.getD_eq_getElem?_getD]
        rw [List.getElem?_append_left (by omega)]
      rw [this]; exact hp j (by omega)
theorem trodF {n : Nat} {v : Value} {y : DataW H × List MemPlace} (h : DataW.trod enc Try.prog w base spare held n 24 [v] = some y) : ∃ L, RdF w v L ∧ L.length ≤ maxLen := by
  have hc : Try.prog.cellsOf 58 = 1 := by kernel_rfl
  have hs : ∃ a len cap, v = .slice a len cap := by
    rcases open_slice1 Try.underlying24 hc h with ⟨hcs, _⟩ | ⟨x, len', cap', m, n', V, D, Pl, hcs, _⟩
    · simp at hcs; exact ⟨_, _, _, hcs⟩
    · simp at hcs; exact ⟨_, _, _, hcs⟩
  obtain ⟨a, len, cap, rfl⟩ := hs
  obtain ⟨L, hl, hm, hr⟩ := open_floats Try.underlying24 Try.underlying58 hc ⟨n, h⟩
  exact ⟨L, hr, by omega⟩
theorem trodFr {n : Nat} {v : Value} {y : DataW H × List MemPlace} (h : DataW.trod enc Try.prog w base spare held n 22 [v] = some y) :
    ∃ Fs, RdFr w v Fs ∧ Fs.length ≤ maxLen ∧ ∀ j, j < Fs.length → (frAt Fs j).L.length ≤ maxLen := by
  have hc : Try.prog.cellsOf 54 = 3 := by kernel_rfl
  have h1 : Try.prog.cellsOf 2 = 1 := by kernel_rfl
  have h2 : Try.prog.cellsOf 24 = 1 := by kernel_rfl
  rcases open_slice Try.underlying22 h with ⟨hcs, _⟩ | ⟨x, len, cap, m, n', D, Pl, hcs, _, hl, hm, hmm, _, hx⟩
  · simp at hcs
    subst hcs
    exact ⟨[], ⟨none, 0, rfl, Nat.le_refl _, fun _ => rfl, fun j hj => by cases hj⟩, Nat.zero_le _, fun j hj => by cases hj⟩
  · simp at hcs
    subst hcs
    have hlm : len ≤ m := by rw [hmm]; split <;> omega
    obtain ⟨Fs, hF, hp⟩ := pick_frames (p := fun j f => ∃ u, w.cell? (x.add (j * 3)) = some (.int .i64 f.st) ∧ w.cell? (x.add (j * 3 + 1)) = some (.int .i64 f.sa) ∧ w.cell? (x.add (j * 3 + 2)) = some u ∧ RdF w u f.L ∧ f.L.length ≤ maxLen) len fun j hj => by
      obtain ⟨cs', hcs, ht⟩ := hx j (by omega)
      rw [hc] at hcs
      obtain ⟨-, hlen, hat⟩ := World.cells?_some hcs
      obtain ⟨l0, l1, l2, rfl⟩ : ∃ a b c, cs' = [a, b, c] := by
        match cs', hlen with
        | [a, b, c], _ => exact ⟨a, b, c, rfl⟩
      obtain ⟨_, _, g0⟩ := trod_field Try.underlying54 ht 0 2 0 1 rfl h1
      obtain ⟨_, _, g1⟩ := trod_field Try.underlying54 ht 1 2 1 1 rfl h1
      obtain ⟨_, _, g2⟩ := trod_field Try.underlying54 ht 2 24 2 1 rfl h2
      obtain ⟨s, e0, -, -⟩ := DataW.trod_int Try.underlying2 g0
      obtain ⟨t, e1, -, -⟩ := DataW.trod_int Try.underlying2 g1
      simp at e0 e1
      subst e0 e1
      obtain ⟨L, hL, hm⟩ := trodF (v := l2) g2
      have a0 := hat 0 (by decide)
      have a1 := hat 1 (by decide)
      have a2 := hat 2 (by decide)
      rw [Go.Deep.add_add] at a0 a1 a2
      exact ⟨⟨s, t, L⟩, l2, a0, a1, a2, hL, hm⟩
    have key : ∀ j, j < len → ∃ b o u, x = ⟨b, o, none⟩ ∧ w.cell? ⟨b, o + j * 3, none⟩ = some (.int .i64 (frAt Fs j).st) ∧ w.cell? ⟨b, o + (j * 3 + 1), none⟩ = some (.int .i64 (frAt Fs j).sa) ∧ w.cell? ⟨b, o + (j * 3 + 2), none⟩ = some u ∧ RdF w u (frAt Fs j).L := by
      intro j hj
      obtain ⟨u, a0, a1, a2, r, -⟩ := hp j hj
      obtain ⟨u', z0, -⟩ := hp 0 (by omega)
      rw [Nat.zero_mul] at z0
      obtain ⟨b, o, rfl, c0⟩ := addr_flat a0 z0
      rw [Addr.add_lit] at a1 a2
      exact ⟨b, o, u, rfl, c0, a1, a2, r⟩
    refine ⟨Fs, ⟨some x, cap, by rw [hF], by omega, (fun h => by cases h), fun j hj => ?_⟩, by omega, fun j hj => by obtain ⟨u, -, -, -, -, h⟩ := hp j (by omega); exact h⟩
    rw [dsF_length, hF] at hj
    obtain ⟨b, o, u, rfl, c0, c1, c2, r⟩ := key (j / 3) (by omega)
    have e := dsF_at Fs (j / 3) (j % 3) (by omega) (Nat.mod_lt _ (by decide))
    rw [show j / 3 * 3 + j % 3 = j by omega] at e
    have hlt : j % 3 < 3 := Nat.mod_lt _ (by decide)
    have ej : j = j / 3 * 3 + j % 3 := by omega
    rw [e]
    generalize j / 3 = q at *
    generalize j % 3 = i at *
    subst ej
    match i, hlt with
    | 0, _ => exact ⟨b, o, _, rfl, c0, rfl⟩
    | 1, _ => exact ⟨b, o, _, rfl, c1, rfl⟩
    | 2, _ => exact ⟨b, o, _, rfl, c2, r⟩
end
end Go.Proofs.Ytpijiidbjcbdhaa
