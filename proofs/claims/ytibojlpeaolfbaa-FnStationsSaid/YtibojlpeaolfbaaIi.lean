/- Rows of rows of integers: equal ones, marks; 'append' of a row. -/
import Derived.Test.YtibojlpeaolfbaaBoo
namespace Go.Proofs.Ytibojlpeaolfbaa
open Go Go.RowKit

theorem RdI.drewN {w : World} {v : Value} {L : List Int} (h : RdI w v L) (n : Nat) : RdI (w.drewN n) v L := h
theorem Own1.is_ {w : World} {S : Nat → Prop} {B : Nat} {v : Value} {L : List Int} (h : OwnI w B v L) (hh : ∀ k, v.ownBlock = some k → S k) : Own1 w S (.is L) v := ⟨h.base (Nat.zero_le _), hh⟩
def rowI (Ls : List (List Int)) (j : Nat) : List Int := Ls.getD j []
/-- A list of lists of floats. -/
def RdII (w : World) (v : Value) (Ls : List (List Int)) : Prop := RdC w v Ls.length (Ls.map D1.is)
theorem RdII.mono {w w' : World} {v : Value} {Ls : List (List Int)} (h : RdII w v Ls) (hb : Below w.heap.size w w') : RdII w' v Ls := RdC.mono h hb
theorem RdII.opened {w : World} {v : Value} {Ls : List (List Int)} (h : RdII w v Ls) :
    ∃ a c, v = .slice a Ls.length c ∧ Ls.length ≤ c ∧ (a = none → c = 0) ∧ ∀ j, j < Ls.length → ∃ b o a' c', a = some ⟨b, o, none⟩ ∧ b < w.heap.size ∧ w.cell? ⟨b, o + j, none⟩ = some (.slice a' (rowI Ls j).length c') ∧ RdI w (.slice a' (rowI Ls j).length c') (rowI Ls j) := by
  obtain ⟨a, c, hv, hc, hz, hr⟩ := h
  refine ⟨a, c, hv, hc, hz, fun j hj => ?_⟩
  obtain ⟨b, o, u, ha, hu, hR⟩ := hr j (by simpa using hj)
  have e : (Ls.map D1.is).getD j default = .is (rowI Ls j) := by simp [rowI, List.getD_eq_getElem?_getD, List.getElem?_map, List.getElem?_eq_getElem hj]
  rw [e] at hR
  obtain ⟨a', c', rfl, _⟩ := RdI.opened hR
  exact ⟨b, o, a', c', ha, block_lt hu, hu, hR⟩

def OwnII (w : World) (S : Nat → Prop) (v : Value) (Ls : List (List Int)) : Prop := OwnC w S 62 1 v Ls.length (Ls.map D1.is)
theorem OwnII.rd {w : World} {S : Nat → Prop} {v : Value} {Ls : List (List Int)} (h : OwnII w S v Ls) : RdII w v Ls := OwnC.rd h
theorem OwnII.kept {w w' : World} {S : Nat → Prop} {v : Value} {Ls : List (List Int)} (h : OwnII w S v Ls) (hb : Below w.heap.size w w') : OwnII w' S v Ls := OwnC.kept h hb
theorem OwnII.chg {w w' : World} {S S' : Nat → Prop} {v : Value} {Ls : List (List Int)} (h : OwnII w S v Ls) (hc : Chg w w' S') (hd : ∀ k, S k → ¬ S' k) : OwnII w' S v Ls := OwnC.chg h hc hd
theorem OwnII.wide {w : World} {S S' : Nat → Prop} {v : Value} {Ls : List (List Int)} (h : OwnII w S v Ls) (h1 : ∀ k, S k → S' k) : OwnII w S' v Ls := OwnC.wide h h1
theorem OwnII.nil (w : World) (S : Nat → Prop) : OwnII w S (.slice none 0 0) [] :=
  ⟨[], rfl, World.ownsRow_nil w 0 _ 1, (fun k hk => by cases hk), (fun j hj => by cases hj), (fun i j k hi => by cases hi), (fun j k hj => by cases hj)⟩
theorem is_getD (Ls : List (List Int)) (k : Nat) (h : k < Ls.length) : (Ls.map D1.is).getD k default = .is (rowI Ls k) := by
  simp [rowI, List.getD_eq_getElem?_getD, List.getElem?_map, List.getElem?_eq_getElem h]
theorem getD_snoc {α : Type} (l : List α) (x d : α) (j : Nat) : (l ++ [x]).getD j d = if j < l.length then l.getD j d else if j = l.length then x else d := by
  simp only [List.getD_eq_getElem?_getD]
  by_cases h : j < l.length
  · rw [if_pos h, List.getElem?_append_left h]
  · rw [if_neg h, List.getElem?_append_right (by omega)]
    by_cases h2 : j = l.length
    · rw [if_pos h2, h2, Nat.sub_self]; rfl
    · rw [if_neg h2, List.getElem?_eq_none (by simp; omega)]; rfl
theorem Try.infoII : (Try.prog.info? 62).map (fun i => (i.zero, i.size, i.bytes)) = some (some (.slice none 0 0), 1, 24) := by kernel_rfl
/-- 'append' of one row to a row of rows of the call's own. -/
theorem wpList_pushC {P : Program} {ops : Array Oper} {rest : List Oper} {o : Oper} {a : Act} {w : World} {Q : Exit → Act → World → Prop} (hgd : o.guard = none) (s x : Operand) (t e : TypeId)
    (ho : o.op = .call { callee := .builtin .append, args := #[s, x], argTypes := #[t, t] }) (z : Value) (bytes : Nat) (ht : P.underlying t = some (.slice e)) (hinfo : (P.info? e).map (fun i => (i.zero, i.size, i.bytes)) = some (some z, 1, bytes))
    (hzs : z.cells.size = 1) (hby : bytes ≤ 100) (B X : Nat) (v : Value) (n : Nat) (ds : List D1) (hs : a.eval s = v) (hown : OwnC w (Iv B X) e 1 v n ds) (hX : X ≤ w.heap.size) (hB : B ≤ X)
    (ad : Addr) (c : Nat) (u : Value) (d : D1) (hx : a.eval x = .slice (some ad) 1 c) (hcell : w.cell? ad = some u) (hu : u.oneCell' = true) (hd : Own1 w (fun k => X ≤ k) d u) (hlen : n ≤ 1048576)
    (h : ∀ v' w', OwnC w' (Iv B w'.heap.size) e 1 v' (n + 1) (ds ++ [d]) → w.grownBy w' v.ownBlock → (v'.ownBlock = v.ownBlock ∨ v'.ownBlock = some w.heap.size) → wpList P ops Q rest (a.put o.dst v') w') : wpList P ops Q (o :: rest) a w := by
  obtain ⟨i0, hi, hz0, hz1, hz2⟩ := info_parts hinfo
  obtain ⟨us, hl, hown, hv, hu1, h3, h4⟩ := hown
  refine wpList_append_own2 hgd s x t ho 0 e i0 z 1 bytes ht hi hz0 hz1 hz2 hzs (by decide) v n us hs hown ad 1 c [u] hx rfl ?_ ?_ ?_ ?_ (Nat.zero_le _) ?_
  · intro j y hy
    match j, hy with
    | 0, hy =>
      simp at hy; subst hy
      have : ad.add 0 = ad := by unfold Addr.add; split <;> simp_all
      rw [this]; exact hcell
  · intro y hy; simp at hy; subst hy; exact hu
  · unfold maxLen; omega
  · exact Nat.le_trans (Nat.mul_le_mul (by omega : n + 1 ≤ 1048577) hby) (by decide)
  · intro v' w' r1 g1 l1
    have hz := g1.size
    have hvB : ∀ k, v.ownBlock = some k → B ≤ k ∧ k < X := fun k hk => hv k hk
    have same1 : ∀ j, j < ds.length → ∀ k, (us.getD j undef).ownBlock = some k → w'.heap[k]? = w.heap[k]? := fun j hj k hk => by
      have q := (hu1 j hj).lt k hk
      exact g1.block k q.2 fun e2 => h4 j k (by omega) hk e2.symm
    have same2 : ∀ k, u.ownBlock = some k → w'.heap[k]? = w.heap[k]? := fun k hk => by
      have q := hd.lt k hk
      exact g1.block k q.2 fun e2 => by have := (hvB k e2.symm).2; have := q.1; omega
    have hlus : us.length = n := by have := hown.1; omega
    refine h v' w' ⟨us ++ [u], by simp [hl], r1, fun k hk => ?_, fun j hj => ?_, fun i j k hi2 hj2 hki hkj => ?_, fun j k hj hk => ?_⟩ g1 l1
    · have q := (r1.lt k hk).2
      refine ⟨?_, q⟩
      rcases l1 with l1 | l1
      · rw [l1] at hk; exact (hvB k hk).1
      · rw [l1] at hk; cases hk; omega
    · rw [getD_snoc, getD_snoc]
      rw [List.length_append, List.length_singleton] at hj
      by_cases hlt : j < ds.length
      · rw [if_pos hlt, if_pos (by omega)]
        have q := (hu1 j hlt).same (same1 j hlt)
        exact q.wide fun k hk => ⟨hk.1, by have := hk.2; omega⟩
      · have hjl : j = ds.length := by omega
        subst hjl
        rw [if_neg (Nat.lt_irrefl _), if_pos rfl, if_neg (by omega), if_pos (by omega)]
        have q := hd.same same2
        refine ⟨q.1, fun k hk => ⟨by have := q.2 k hk; simp only at this; omega, by have := (hd.lt k hk).2; omega⟩⟩
    · rw [getD_snoc] at hki hkj
      rw [List.length_append, List.length_singleton] at hi2 hj2
      have old : ∀ j, j < us.length → ∀ k, (us.getD j undef).ownBlock = some k → k < X := fun j hj k hk => ((hu1 j (by omega)).lt k hk).1.2
      by_cases e1 : i < us.length
      · rw [if_pos e1] at hki
        by_cases e2 : j < us.length
        · rw [if_pos e2] at hkj
          exact h3 i j k e1 e2 hki hkj
        · rw [if_neg e2, if_pos (by omega)] at hkj
          have := (hd.lt k hkj).1
          have := old i e1 k hki
          omega
      · rw [if_neg e1, if_pos (by omega)] at hki
        by_cases e2 : j < us.length
        · rw [if_pos e2] at hkj
          have := (hd.lt k hki).1
          have := old j e2 k hkj
          omega
        · omega
    · rw [getD_snoc] at hk
      rw [List.length_append, List.length_singleton] at hj
      by_cases e1 : j < us.length
      · rw [if_pos e1] at hk
        rcases l1 with l1 | l1
        · rw [l1]; exact h4 j k e1 hk
        · rw [l1]; intro e2; cases e2
          have := ((hu1 j (by omega)).lt _ hk).2
          omega
      · rw [if_neg e1, if_pos (by omega)] at hk
        have q := hd.lt k hk
        rcases l1 with l1 | l1
        · rw [l1]; intro e2; have := (hvB k e2).2; have := q.1; omega
        · rw [l1]; intro e2; cases e2; omega

/-- The numbers that lists have, up to list j; the marksI of lists. -/
def cntI (Ls : List (List Int)) : Nat → Nat
  | 0 => 0
  | j + 1 => cntI Ls j + (rowI Ls j).length
def marksII (k : Nat) (Ls : List (List Int)) : List (List Int) := (List.range Ls.length).map fun j => marksI (k + cntI Ls j) (rowI Ls j).length
theorem marksII_length (k : Nat) (Ls : List (List Int)) : (marksII k Ls).length = Ls.length := by simp [marksII]
theorem marksII_row (k : Nat) (Ls : List (List Int)) (j : Nat) (h : j < Ls.length) : rowI (marksII k Ls) j = marksI (k + cntI Ls j) (rowI Ls j).length := by
  have : (marksII k Ls).getD j [] = marksI (k + cntI Ls j) (rowI Ls j).length := by
    simp [marksII, List.getD_eq_getElem?_getD, List.getElem?_map, List.getElem?_range h]
  exact this
theorem cntI_le (Ls : List (List Int)) (m j : Nat) (hm : ∀ i, i < Ls.length → (rowI Ls i).length ≤ m) (hj : j ≤ Ls.length) : cntI Ls j ≤ j * m := by
  induction j with
  | zero => simp [cntI]
  | succ j ih =>
    have h1 := ih (by omega)
    have h2 := hm j (by omega)
    rw [cntI, Nat.succ_mul]
    omega

end Go.Proofs.Ytibojlpeaolfbaa
