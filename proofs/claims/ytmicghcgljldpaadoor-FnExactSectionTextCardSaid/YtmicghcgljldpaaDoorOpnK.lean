/- Desks that came in, read as lists. -/
import Derived.Test.YtmicghcgljldpaaDoorOpn
import Derived.Test.YtmicghcgljldpaaDoorL4
namespace Go.Proofs.YtmicghcgljldpaaDoor
open Go.ChangeShapes Go.WideShapes Go.ChangeAt Go.RowKit Go.Deep
section
variable {H : Type} {enc : TypeId × Value → H} {w : World} {base : Nat} {spare : Nat → Bool} {held : Bool}

theorem trod_field {P : Program} {t : TypeId} {fs : Array Field} {fuel : Nat} {cs : List Value} {x : DataW H × List MemPlace} (ht : P.underlying t = some (.struct fs)) (h : DataW.trod enc P w base spare held fuel t cs = some x) (i : Nat) (e : TypeId) (off k : Nat)
    (hf : (fs[i]?).map (fun f => (f.type, f.offset)) = some (e, off)) (hk : P.cellsOf e = k) : ∃ n y, DataW.trod enc P w base spare held n e ((cs.drop off).take k) = some y := by
  obtain ⟨xs, n, -, -, -, hl, hg⟩ := DataW.trod_struct ht h
  cases hff : fs[i]? with
  | none => rw [hff] at hf; cases hf
  | some f =>
    rw [hff] at hf
    simp only [Option.map_some, Option.some.injEq, Prod.mk.injEq] at hf
    obtain ⟨rfl, rfl⟩ := hf
    subst hk
    have hi : i < xs.length := by rw [hl]; exact (Array.getElem?_eq_some_iff.1 hff).1
    exact ⟨n, xs[i], (hg i f hff).trans (List.getElem?_eq_getElem hi)⟩
theorem addr_flat {w : World} {x : Addr} {n : Nat} {u u0 : Value} (h : w.cell? (x.add n) = some u) (h0 : w.cell? (x.add 0) = some u0) : ∃ b o, x = ⟨b, o, none⟩ ∧ w.cell? ⟨b, o + n, none⟩ = some u := by
  obtain ⟨b, o, s⟩ := x
  have h3 := World.cell?_spot h0
  have hs : s = none := by simpa [Addr.add] using h3
  subst hs
  exact ⟨b, o, rfl, by rw [← Addr.add_lit]; exact h⟩
theorem pick_lists {p : Nat → List Nat → Prop} (n : Nat) (h : ∀ j, j < n → ∃ L, p j L) : ∃ Ls : List (List Nat), Ls.length = n ∧ ∀ j, j < n → p j (rowAt Ls j) := by
  induction n with
  | zero => exact ⟨[], rfl, fun j hj => by cases hj⟩
  | succ n ih =>
    obtain ⟨Ls, hl, hp⟩ := ih fun j hj => h j (by omega)
    obtain ⟨L, hL⟩ := h n (by omega)
    refine ⟨Ls ++ [L], by simp [hl], fun j hj => ?_⟩
    by_cases e : j = n
    · subst e
      have : rowAt (Ls ++ [L]) j = L := by simp [rowAt, List.getD_eq_getElem?_getD, ← hl]
      rw [this]; exact hL
    · have : rowAt (Ls ++ [L]) j = rowAt Ls j := by
        simp only [rowAt, List.getD_eq_getElem?_getD]
        rw [List.getElem?_append_left (by omega)]
      rw [this]; exact hp j (by omega)

theorem trodF {n : Nat} {v : Value} {y : DataW H × List MemPlace} (h : DataW.trod enc Tryd.prog w base spare held n 30 [v] = some y) : ∃ L, RdF w v L ∧ L.length ≤ maxLen := by
  have hc : Tryd.prog.cellsOf 22 = 1 := by kernel_rfl
  have hs : ∃ a len cap, v = .slice a len cap := by
    rcases open_slice1 Tryd.underlying30 hc h with ⟨hcs, _⟩ | ⟨x, len', cap', m, n', V, D, Pl, hcs, _⟩
    · simp at hcs; exact ⟨_, _, _, hcs⟩
    · simp at hcs; exact ⟨_, _, _, hcs⟩
  obtain ⟨a, len, cap, rfl⟩ := hs
  obtain ⟨L, hl, hm, hr⟩ := open_floats Tryd.underlying30 Tryd.underlying22 hc ⟨n, h⟩
  exact ⟨L, hr, by omega⟩
theorem trodF32 {n : Nat} {v : Value} {y : DataW H × List MemPlace} (h : DataW.trod enc Tryd.prog w base spare held n 22 [v] = some y) : ∃ b, v = .float .f32 b ∧ FV .f32 b (can .f32 b) := by
  obtain ⟨b, rfl, hw⟩ := trod_float Tryd.underlying22 h
  exact ⟨b, rfl, FV.can (wf_float hw)⟩

theorem trodSS {n : Nat} {v : Value} {y : DataW H × List MemPlace} (h : DataW.trod enc Tryd.prog w base spare held n 50 [v] = some y) : ∃ Ls, RdSS w v Ls ∧ Ls.length ≤ maxLen ∧ ∀ j, j < Ls.length → (rowAt Ls j).length ≤ maxLen := by
  have hc : Tryd.prog.cellsOf 30 = 1 := by kernel_rfl
  rcases open_slice1 Tryd.underlying50 hc h with ⟨hcs, _⟩ | ⟨x, len, cap, m, n', V, D, Pl, hcs, _, hl, hm, hmm, _, hx⟩
  · simp at hcs
    subst hcs
    exact ⟨[], ⟨none, 0, rfl, Nat.le_refl _, fun _ => rfl, fun j hj => by cases hj⟩, Nat.zero_le _, fun j hj => by cases hj⟩
  · simp at hcs
    subst hcs
    have hlm : len ≤ m := by rw [hmm]; split <;> omega
    obtain ⟨Ls, hL, hp⟩ := pick_lists (p := fun j L => RdF w (V j) L ∧ L.length ≤ maxLen) len fun j hj => trodF (hx j (by omega)).2
    refine ⟨Ls, ⟨some x, cap, by rw [hL], by omega, (fun h => by cases h), fun j hj => ?_⟩, by omega, fun j hj => (hp j (by omega)).2⟩
    simp only [List.length_map] at hj
    obtain ⟨b, o, rfl, hcell⟩ := addr_flat (hx j (by omega)).1 (hx 0 (by omega)).1
    refine ⟨b, o, _, rfl, hcell, ?_⟩
    have e : (Ls.map D1.fs).getD j default = .fs (rowAt Ls j) := by
      simp [rowAt, List.getD_eq_getElem?_getD, List.getElem?_map, List.getElem?_eq_getElem hj]
    rw [e]
    exact (hp j (by omega)).1

theorem trodLay {n : Nat} {v : Value} {y : DataW H × List MemPlace} (h : DataW.trod enc Tryd.prog w base spare held n 39 [v] = some y) : ∃ m L, RdLay w v m L ∧ m ≤ maxLen := by
  have hc : Tryd.prog.cellsOf 104 = 4 := by kernel_rfl
  have h1 : Tryd.prog.cellsOf 22 = 1 := by kernel_rfl
  rcases open_slice Tryd.underlying39 h with ⟨hcs, _⟩ | ⟨x, len, cap, m, n', D, Pl, hcs, _, hl, hm, hmm, _, hx⟩
  · simp at hcs
    subst hcs
    exact ⟨0, [], ⟨rfl, none, 0, rfl, Nat.le_refl _, fun _ => rfl, fun j hj => by cases hj⟩, Nat.zero_le _⟩
  · simp at hcs
    subst hcs
    have hlm : len ≤ m := by rw [hmm]; split <;> omega
    have key : ∀ j, j < 4 * len → ∃ b, w.cell? (x.add j) = some (.float .f32 b) ∧ FV .f32 b (can .f32 b) := by
      intro j hj
      obtain ⟨cs', hcs, ht⟩ := hx (j / 4) (by omega)
      rw [hc] at hcs
      obtain ⟨-, hlen, hat⟩ := World.cells?_some hcs
      obtain ⟨l0, l1, l2, l3, rfl⟩ : ∃ a b c d, cs' = [a, b, c, d] := by
        match cs', hlen with
        | [a, b, c, d], _ => exact ⟨a, b, c, d, rfl⟩
      have hk := hat (j % 4) (Nat.mod_lt _ (by decide))
      rw [Go.Deep.add_add, show j / 4 * 4 + j % 4 = j by omega] at hk
      rw [hk]
      have hlt : j % 4 < 4 := Nat.mod_lt _ (by decide)
      obtain ⟨_, _, g0⟩ := trod_field Tryd.underlying104 ht 0 22 0 1 rfl h1
      obtain ⟨_, _, g1⟩ := trod_field Tryd.underlying104 ht 1 22 1 1 rfl h1
      obtain ⟨_, _, g2⟩ := trod_field Tryd.underlying104 ht 2 22 2 1 rfl h1
      obtain ⟨_, _, g3⟩ := trod_field Tryd.underlying104 ht 3 22 3 1 rfl h1
      obtain ⟨b0, rfl, f0⟩ := trodF32 (v := l0) g0
      obtain ⟨b1, rfl, f1⟩ := trodF32 (v := l1) g1
      obtain ⟨b2, rfl, f2⟩ := trodF32 (v := l2) g2
      obtain ⟨b3, rfl, f3⟩ := trodF32 (v := l3) g3
      generalize j % 4 = k at *
      match k, hlt with
      | 0, _ => exact ⟨b0, rfl, f0⟩
      | 1, _ => exact ⟨b1, rfl, f1⟩
      | 2, _ => exact ⟨b2, rfl, f2⟩
      | 3, _ => exact ⟨b3, rfl, f3⟩
    obtain ⟨bits, hlb, hb⟩ := pick_list (4 * len) key
    refine ⟨len, bits.map (can .f32), ⟨by simp [hlb], some x, cap, rfl, hl, (fun h => by cases h), fun j hj => ?_⟩, by omega⟩
    simp only [List.length_map, hlb] at hj
    obtain ⟨h2, h3⟩ := hb j hj
    obtain ⟨b, o, rfl, hcell⟩ := addr_flat h2 (hb 0 (by omega)).1
    have e1 : ((bits.map (can .f32)).map D1.f).getD j default = .f (can .f32 (bits.getD j 0)) := by
      simp [List.getD_eq_getElem?_getD, List.getElem?_eq_getElem (show j < bits.length by omega)]
    refine ⟨b, o, _, rfl, hcell, ?_⟩
    rw [e1]
    exact ⟨_, rfl, h3⟩

theorem trodG {n : Nat} {c0 c1 c2 : Value} {y : DataW H × List MemPlace} (h : DataW.trod enc Tryd.prog w base spare held n 41 [c0, c1, c2] = some y) : ∃ G : GM, RdG w (.agg #[c0, c1, c2]) G ∧ G.n ≤ maxLen := by
  have h1 : Tryd.prog.cellsOf 22 = 1 := by kernel_rfl
  have h2 : Tryd.prog.cellsOf 39 = 1 := by kernel_rfl
  obtain ⟨_, _, g0⟩ := trod_field Tryd.underlying41 h 0 39 0 1 rfl h2
  obtain ⟨_, _, g1⟩ := trod_field Tryd.underlying41 h 1 22 1 1 rfl h1
  obtain ⟨_, _, g2⟩ := trod_field Tryd.underlying41 h 2 22 2 1 rfl h1
  obtain ⟨m, L, hL, hm⟩ := trodLay (v := c0) g0
  obtain ⟨b1, rfl, f1⟩ := trodF32 (v := c1) g1
  obtain ⟨b2, rfl, f2⟩ := trodF32 (v := c2) g2
  exact ⟨⟨m, L, _, _⟩, ⟨_, _, _, rfl, hL, f1, f2⟩, hm⟩

theorem trodT {n : Nat} {c0 c1 c2 : Value} {y : DataW H × List MemPlace} (h : DataW.trod enc Tryd.prog w base spare held n 52 [c0, c1, c2] = some y) : ∃ T : TM, RdT w (.agg #[c0, c1, c2]) T ∧ T.fits := by
  have h1 : Tryd.prog.cellsOf 30 = 1 := by kernel_rfl
  have h2 : Tryd.prog.cellsOf 50 = 1 := by kernel_rfl
  have h3 : Tryd.prog.cellsOf 2 = 1 := by kernel_rfl
  obtain ⟨_, _, g0⟩ := trod_field Tryd.underlying52 h 0 2 0 1 rfl h3
  obtain ⟨_, _, g1⟩ := trod_field Tryd.underlying52 h 1 30 1 1 rfl h1
  obtain ⟨_, _, g2⟩ := trod_field Tryd.underlying52 h 2 50 2 1 rfl h2
  obtain ⟨t, e, -, -⟩ := DataW.trod_int Tryd.underlying2 g0
  simp at e
  subst e
  obtain ⟨L, hL, hm⟩ := trodF (v := c1) g1
  obtain ⟨Ls, hLs, hm1, hm2⟩ := trodSS (v := c2) g2
  exact ⟨⟨t, L, Ls⟩, ⟨_, _, rfl, hL, hLs⟩, hm, hm1, hm2⟩

set_option maxRecDepth 100000 in
theorem open_ground {r : Reach} {b0 : Nat} {v : Value} {d : DataW H} {p : List MemPlace} (hv : Value.okWide Tryd.prog w r b0 41 v) (h : DataW.Trod enc Tryd.prog w base spare held 41 v d p) :
    ∃ G : GM, RdG w v G ∧ G.n ≤ maxLen := by
  obtain ⟨cs, rfl, hsz⟩ := okWide_struct Tryd.underlying41 hv
  have hC : Tryd.prog.cellsOf 41 = 3 := by kernel_rfl
  obtain ⟨l⟩ := cs
  match l, hsz.trans hC with
  | [c0, c1, c2], _ =>
    obtain ⟨fuel, hf⟩ := h
    exact trodG hf
set_option maxRecDepth 100000 in
theorem open_gather {r : Reach} {b0 : Nat} {v : Value} {d : DataW H} {p : List MemPlace} (hv : Value.okWide Tryd.prog w r b0 52 v) (h : DataW.Trod enc Tryd.prog w base spare held 52 v d p) :
    ∃ T : TM, RdT w v T ∧ T.fits := by
  obtain ⟨cs, rfl, hsz⟩ := okWide_struct Tryd.underlying52 hv
  have hC : Tryd.prog.cellsOf 52 = 3 := by kernel_rfl
  obtain ⟨l⟩ := cs
  match l, hsz.trans hC with
  | [c0, c1, c2], _ =>
    obtain ⟨fuel, hf⟩ := h
    exact trodT hf
end
end Go.Proofs.YtmicghcgljldpaaDoor
