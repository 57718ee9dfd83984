/- 'append' of one layer to a row of layers of the call's own. -/
import Derived.Test.YtjbaebgdebcipaaGreatDoorL6
import Derived.Test.YtjbaebgdebcipaaGreatDoorInb
namespace Go.Proofs.YtjbaebgdebcipaaGreatDoor
open Go Go.RowKit

def OwnL (w : World) (S : Nat → Prop) (v : Value) (n : Nat) (L : List Nat) : Prop := OwnC w S 77 4 v n (L.map D1.f)
theorem OwnL.nil (w : World) (S : Nat → Prop) : OwnL w S (.slice none 0 0) 0 [] :=
  ⟨[], rfl, World.ownsRow_nil w 0 _ 4, (fun k hk => by cases hk), (fun j hj => by cases hj), (fun i j k hi => by cases hi), (fun j k hj => by cases hj)⟩
theorem ownL_of {w : World} {S : Nat → Prop} {v : Value} {n : Nat} {bits L : List Nat} (hl : bits.length = L.length) (hf : ∀ j, j < L.length → FV .f32 (bits.getD j 0) (L.getD j 0)) (ho : w.ownsRow 0 77 4 v n (bits.map (Value.float .f32))) (hS : ∀ k, v.ownBlock = some k → S k) : OwnL w S v n L := by
  have hown : ∀ (j : Nat), ((bits.map (Value.float .f32)).getD j undef).ownBlock = none := fun j => by
    simp only [List.getD_eq_getElem?_getD, List.getElem?_map]
    cases bits[j]? <;> rfl
  refine ⟨bits.map (Value.float .f32), by simp [hl], ho, hS, fun j hj => ?_, fun i j k hi hj hki => ?_, fun j k hj hk => ?_⟩
  · rw [List.length_map] at hj
    have e1 : (L.map D1.f).getD j default = .f (L.getD j 0) := by simp [List.getD_eq_getElem?_getD, List.getElem?_map, List.getElem?_eq_getElem hj]
    have e2 : (bits.map (Value.float .f32)).getD j undef = .float .f32 (bits.getD j 0) := by simp [List.getD_eq_getElem?_getD, List.getElem?_map, List.getElem?_eq_getElem (show j < bits.length by omega)]
    rw [e1, e2]
    exact Own1.f (hf j hj)
  · rw [hown] at hki; cases hki
  · rw [hown] at hk; cases hk
theorem ownL_bits {w : World} {S : Nat → Prop} {v : Value} {n : Nat} {L : List Nat} (h : OwnL w S v n L) : ∃ bits : List Nat, bits.length = L.length ∧ (∀ j, j < L.length → FV .f32 (bits.getD j 0) (L.getD j 0)) ∧ w.ownsRow 0 77 4 v n (bits.map (Value.float .f32)) ∧ (∀ k, v.ownBlock = some k → S k) := by
  obtain ⟨us, hl, ho, hS, hu, -, -⟩ := h
  rw [List.length_map] at hl
  have key : ∀ j, j < L.length → ∃ r, us.getD j undef = .float .f32 r ∧ FV .f32 r (L.getD j 0) := fun j hj => by
    have h1 := (hu j (by simpa using hj)).1
    have e1 : (L.map D1.f).getD j default = .f (L.getD j 0) := by simp [List.getD_eq_getElem?_getD, List.getElem?_map, List.getElem?_eq_getElem hj]
    rw [e1] at h1
    obtain ⟨⟨r, hr, hf⟩, -⟩ := h1
    exact ⟨r, hr, hf⟩
  have hmk : ∀ (n : Nat) (us : List Value) (L : List Nat), us.length = n → L.length = n → (∀ j, j < n → ∃ r, us.getD j undef = .float .f32 r ∧ FV .f32 r (L.getD j 0)) → ∃ bits : List Nat, bits.length = n ∧ us = bits.map (Value.float .f32) ∧ ∀ j, j < n → FV .f32 (bits.getD j 0) (L.getD j 0) := by
    intro n
    induction n with
    | zero => intro us L h1 _ _; exact ⟨[], rfl, by simpa using h1, fun j hj => by cases hj⟩
    | succ n ih =>
      intro us L h1 h2 hk
      cases us with
      | nil => simp at h1
      | cons u us =>
        cases L with
        | nil => simp at h2
        | cons x L =>
          obtain ⟨r, hr, hf⟩ := hk 0 (by omega)
          obtain ⟨bits, b1, b2, b3⟩ := ih us L (by simpa using h1) (by simpa using h2) (fun j hj => by simpa using hk (j + 1) (by omega))
          refine ⟨r :: bits, by simp [b1], by simp at hr; rw [hr, b2]; rfl, fun j hj => ?_⟩
          cases j with
          | zero => simpa using hf
          | succ j => simpa using b3 j (by omega)
  obtain ⟨bits, b1, rfl, b3⟩ := hmk L.length us L hl rfl key
  exact ⟨bits, b1, b3, ho, hS⟩
/-- 'append' of one layer. -/
theorem wpList_pushL {ops : Array Oper} {rest : List Oper} {o : Oper} {a : Act} {w : World} {Q : Exit → Act → World → Prop} (hgd : o.guard = none) (s x : Operand)
    (ho : o.op = .call { callee := .builtin .append, args := #[s, x], argTypes := #[41, 41] })
    (B : Nat) (v : Value) (n : Nat) (L : List Nat) (hs : a.eval s = v) (hown : OwnL w (fun k => B ≤ k) v n L) (hB : B ≤ w.heap.size)
    (g c r0 r1 r2 r3 x0 x1 x2 x3 : Nat) (hx : a.eval x = .slice (some ⟨g, 0, none⟩) 1 c) (k0 : w.cell? ⟨g, 0, none⟩ = some (.float .f32 r0)) (k1 : w.cell? ⟨g, 1, none⟩ = some (.float .f32 r1)) (k2 : w.cell? ⟨g, 2, none⟩ = some (.float .f32 r2)) (k3 : w.cell? ⟨g, 3, none⟩ = some (.float .f32 r3))
    (f0 : FV .f32 r0 x0) (f1 : FV .f32 r1 x1) (f2 : FV .f32 r2 x2) (f3 : FV .f32 r3 x3) (hlen : n ≤ 1048576)
    (h : ∀ v' w', OwnL w' (fun k => B ≤ k) v' (n + 1) (L ++ [x0, x1, x2, x3]) → w.grownBy w' v.ownBlock → (v'.ownBlock = v.ownBlock ∨ v'.ownBlock = some w.heap.size) → wpList Tryz.prog ops Q rest (a.put o.dst v') w') : wpList Tryz.prog ops Q (o :: rest) a w := by
  obtain ⟨i0, hi, hz0, hz1, hz2⟩ := info_parts Tryz.infoLay
  obtain ⟨bits, hl, hf, hown, hv⟩ := ownL_bits hown
  refine wpList_append_own2 hgd s x 41 ho 0 77 i0 _ 4 16 Tryz.underlying41 hi hz0 hz1 hz2 rfl (by decide) v n _ hs hown ⟨g, 0, none⟩ 1 c [.float .f32 r0, .float .f32 r1, .float .f32 r2, .float .f32 r3] hx rfl ?_ ?_ ?_ ?_ (Nat.zero_le _) ?_
  · intro j y hy
    match j, hy with
    | 0, hy => simp at hy; subst hy; exact k0
    | 1, hy => simp at hy; subst hy; exact k1
    | 2, hy => simp at hy; subst hy; exact k2
    | 3, hy => simp at hy; subst hy; exact k3
    | j + 4, hy => simp at hy
  · intro y hy; simp at hy; rcases hy with rfl | rfl | rfl | rfl <;> rfl
  · unfold maxLen; omega
  · omega
  · intro v' w' r1' g1 l1
    refine h v' w' (ownL_of (bits := bits ++ [r0, r1, r2, r3]) (by simp [hl]) (fun j hj => ?_) (by rw [List.map_append]; exact r1') fun k hk => ?_) g1 l1
    · by_cases hj2 : j < L.length
      · rw [List.getD_eq_getElem?_getD, List.getD_eq_getElem?_getD, List.getElem?_append_left hj2, List.getElem?_append_left (by omega), ← List.getD_eq_getElem?_getD, ← List.getD_eq_getElem?_getD]
        exact hf j hj2
      · rw [List.getD_eq_getElem?_getD, List.getD_eq_getElem?_getD, List.getElem?_append_right (by omega), List.getElem?_append_right (by omega), hl]
        simp at hj
        obtain ⟨i, rfl⟩ : ∃ i, j = L.length + i := ⟨j - L.length, by omega⟩
        rw [Nat.add_sub_cancel_left]
        match i, hj with
        | 0, _ => exact f0
        | 1, _ => exact f1
        | 2, _ => exact f2
        | 3, _ => exact f3
        | i + 4, hj => omega
    · rcases l1 with l1 | l1
      · rw [l1] at hk; exact hv k hk
      · rw [l1] at hk; cases hk; exact hB
end Go.Proofs.YtjbaebgdebcipaaGreatDoor
