/- Plain: the gather that a text tells; 'append' of one row to a row of rows of the call's own, by its set of blocks. -/
import Derived.Test.YtjbaebgdebcipaaGreatDoorNr
import Derived.Test.YtjbaebgdebcipaaGreatDoorRsP
import Derived.Test.YtjbaebgdebcipaaGreatDoorW30
import Derived.Test.YtjbaebgdebcipaaGreatDoorL7
import Derived.Test.YtjbaebgdebcipaaGreatDoorChg
namespace Go.Proofs.YtjbaebgdebcipaaGreatDoor
open Go Go.RowKit

noncomputable def allN : List ByteArray → Option (List (List Nat))
  | [] => some []
  | t :: r => match rn 256 t with
    | none => none
    | some L => match allN r with
      | none => none
      | some M => some (L :: M)
theorem allN_snoc (l : List ByteArray) (t : ByteArray) : allN (l ++ [t]) = match allN l with
    | none => none
    | some M => match rn 256 t with
      | none => none
      | some L => some (M ++ [L]) := by
  induction l with
  | nil =>
    simp only [List.nil_append, allN]
  | cons a l ih =>
    simp only [List.cons_append, allN, ih]
    cases rn 256 a with
    | none => rfl
    | some L =>
      cases allN l with
      | none => rfl
      | some M =>
        cases rn 256 t with
        | none => rfl
        | some K => rfl
theorem allN_bad {l r : List ByteArray} {t : ByteArray} (h : rn 256 t = none) : allN (l ++ t :: r) = none := by
  induction l with
  | nil => simp only [List.nil_append, allN, h]
  | cons a l ih =>
    simp only [List.cons_append, allN, ih]
    cases rn 256 a <;> rfl
theorem allN_length {l : List ByteArray} : ∀ {L : List (List Nat)}, allN l = some L → L.length = l.length := by
  induction l with
  | nil => intro L h; cases h; rfl
  | cons a l ih =>
    intro L h
    simp only [allN] at h
    cases h1 : rn 256 a with
    | none => rw [h1] at h; cases h
    | some K =>
      rw [h1] at h
      cases h2 : allN l with
      | none => rw [h2] at h; cases h
      | some M =>
        rw [h2] at h
        cases h
        simp [ih h2]
theorem allN_few {l : List ByteArray} : ∀ {L : List (List Nat)}, allN l = some L → ∀ j, (rowAt L j).length ≤ 256 := by
  induction l with
  | nil => intro L h j; cases h; simp [rowAt]
  | cons a l ih =>
    intro L h j
    simp only [allN] at h
    cases h1 : rn 256 a with
    | none => rw [h1] at h; cases h
    | some K =>
      rw [h1] at h
      cases h2 : allN l with
      | none => rw [h2] at h; cases h
      | some M =>
        rw [h2] at h
        cases h
        cases j with
        | zero => exact rn_few h1
        | succ j => exact ih h2 j
/-- The gather of three parts. -/
noncomputable def rt (t : ByteArray) : Option TM := if (cutB 59 t).length = 3 then (match rdD (prt (cutB 59 t) 0) with
  | none => none
  | some n => match rn 256 (prt (cutB 59 t) 1) with
    | none => none
    | some P => match allN (cutB 47 (prt (cutB 59 t) 2)) with
      | none => none
      | some Ls => if validT ⟨n, P, Ls⟩ = true then some ⟨n, P, Ls⟩ else none) else none
theorem rt_len {t : ByteArray} (h : ¬ (cutB 59 t).length = 3) : rt t = none := by unfold rt; rw [if_neg h]
theorem rt_n {t : ByteArray} (h : rdD (prt (cutB 59 t) 0) = none) : rt t = none := by
  unfold rt; split
  · simp only [h]
  · rfl
theorem rt_P {t : ByteArray} (h : rn 256 (prt (cutB 59 t) 1) = none) : rt t = none := by
  unfold rt; split
  · cases rdD (prt (cutB 59 t) 0) with
    | none => rfl
    | some n => simp only [h]
  · rfl
theorem rt_L {t : ByteArray} (h : allN (cutB 47 (prt (cutB 59 t) 2)) = none) : rt t = none := by
  unfold rt; split
  · cases rdD (prt (cutB 59 t) 0) with
    | none => rfl
    | some n =>
      cases rn 256 (prt (cutB 59 t) 1) with
      | none => rfl
      | some P => simp only [h]
  · rfl
theorem rt_yes {t : ByteArray} {n : Int} {P : List Nat} {Ls : List (List Nat)} (h0 : (cutB 59 t).length = 3) (h : rdD (prt (cutB 59 t) 0) = some n) (h1 : rn 256 (prt (cutB 59 t) 1) = some P) (h2 : allN (cutB 47 (prt (cutB 59 t) 2)) = some Ls) :
    rt t = if validT ⟨n, P, Ls⟩ = true then some ⟨n, P, Ls⟩ else none := by
  unfold rt
  simp only [if_pos h0, h, h1, h2]
theorem rt_few {t : ByteArray} {T : TM} (h : rt t = some T) : T.P.length ≤ 256 ∧ T.Ls.length ≤ 256 ∧ ∀ j, (rowAt T.Ls j).length ≤ 256 := by
  unfold rt at h
  split at h
  · split at h
    · cases h
    · split at h
      · cases h
      · rename_i P hP
        split at h
        · cases h
        · rename_i Ls hL
          split at h
          · rename_i hv
            cases h
            simp only [validT, Bool.and_eq_true, decide_eq_true_eq] at hv
            have := rn_few hP
            exact ⟨this, by rw [hv.2.2.2.1]; exact this, allN_few hL⟩
          · cases h
  · cases h
theorem cutL_sum (m : UInt8) : ∀ l : List UInt8, ((cutL m l).map List.length).sum + (cutL m l).length = l.length + 1
  | [] => rfl
  | b :: r => by
    have ih := cutL_sum m r
    unfold cutL
    split
    · simp only [List.map_cons, List.length_nil, List.sum_cons, List.length_cons]; omega
    · cases h : cutL m r with
      | nil => exact absurd h (cutL_ne m r)
      | cons p q =>
        rw [h] at ih
        simp only [List.map_cons, List.sum_cons, List.length_cons] at ih ⊢
        omega
theorem part_less {t : ByteArray} (h : (cutB 59 t).length = 3) (ht : t.size ≤ 1048576) : (cutB 47 (prt (cutB 59 t) 2)).length ≤ 1048576 := by
  have h1 := cutL_sum 59 t.data.toList
  have h2 : (prt (cutB 59 t) 2).size + 2 ≤ t.size := by
    unfold prt
    unfold cutB at h ⊢
    rw [List.length_map] at h
    match hc : cutL 59 t.data.toList, h with
    | [a, b, c], _ =>
      rw [hc] at h1
      simp only [List.map_cons, List.map_nil, List.sum_cons, List.sum_nil, List.length_cons, List.length_nil] at h1
      have := Lib.size_eq t
      show (mkB c).size + 2 ≤ t.size
      rw [mkB_size]
      omega
  have h3 := cutL_len 47 (prt (cutB 59 t) 2).data.toList
  have h4 := Lib.size_eq (prt (cutB 59 t) 2)
  have h5 : (cutB 47 (prt (cutB 59 t) 2)).length = (cutL 47 (prt (cutB 59 t) 2).data.toList).length := by unfold cutB; rw [List.length_map]
  omega

theorem getD_snoc {α : Type} (l : List α) (x d : α) (j : Nat) : (l ++ [x]).getD j d = if j < l.length then l.getD j d else if j = l.length then x else d := by
  simp only [List.getD_eq_getElem?_getD]
  by_cases h : j < l.length
  · rw [if_pos h, List.getElem?_append_left h]
  · rw [if_neg h, List.getElem?_append_right (by omega)]
    by_cases h2 : j = l.length
    · rw [if_pos h2, h2, Nat.sub_self]; rfl
    · rw [if_neg h2, List.getElem?_eq_none (by simp; omega)]; rfl
/-- 'append' of one row. -/
theorem wpList_pushS {P : Program} {ops : Array Oper} {rest : List Oper} {o : Oper} {a : Act} {w : World} {Q : Exit → Act → World → Prop} (hgd : o.guard = none) (s x : Operand) (t e : TypeId)
    (ho : o.op = .call { callee := .builtin .append, args := #[s, x], argTypes := #[t, t] }) (z : Value) (bytes : Nat) (ht : P.underlying t = some (.slice e)) (hinfo : (P.info? e).map (fun i => (i.zero, i.size, i.bytes)) = some (some z, 1, bytes))
    (hzs : z.cells.size = 1) (hby : bytes ≤ 100) (S : Nat → Prop) (X : Nat) (v : Value) (n : Nat) (ds : List D1) (hs : a.eval s = v) (hown : OwnC w S e 1 v n ds) (hX : X ≤ w.heap.size) (hS : ∀ k, S k → k < X)
    (ad : Addr) (c : Nat) (u : Value) (d : D1) (hx : a.eval x = .slice (some ad) 1 c) (hcell : w.cell? ad = some u) (hu : u.oneCell' = true) (hd : Own1 w (fun k => X ≤ k) d u) (hlen : n ≤ 1048576)
    (h : ∀ v' w', (∀ S' : Nat → Prop, (∀ k, S k → S' k) → (∀ k, X ≤ k → k < w'.heap.size → S' k) → OwnC w' S' e 1 v' (n + 1) (ds ++ [d])) → w.grownBy w' v.ownBlock → (v'.ownBlock = v.ownBlock ∨ v'.ownBlock = some w.heap.size) → wpList P ops Q rest (a.put o.dst v') w') : wpList P ops Q (o :: rest) a w := by
  obtain ⟨i0, hi, hz0, hz1, hz2⟩ := info_parts hinfo
  obtain ⟨us, hl, hown, hv, hu1, h3, h4⟩ := hown
  refine wpList_append_own2 hgd s x t ho 0 e i0 z 1 bytes ht hi hz0 hz1 hz2 hzs (by decide) v n us hs hown ad 1 c [u] hx rfl ?_ ?_ ?_ ?_ (Nat.zero_le _) ?_
  · intro j y hy
    match j, hy with
    | 0, hy =>
      simp at hy; subst hy
      have : ad.add 0 = ad := by unfold Addr.add; split <;> simp_all
      rw [this]; exact hcell
  · intro y hy; simp at hy; subst hy; exact hu
  · unfold maxLen; omega
  · exact Nat.le_trans (Nat.mul_le_mul (by omega : n + 1 ≤ 1048577) hby) (by decide)
  · intro v' w' r1 g1 l1
    have hz := g1.size
    have hvB : ∀ k, v.ownBlock = some k → S k ∧ k < X := fun k hk => ⟨hv k hk, hS k (hv k hk)⟩
    have same1 : ∀ j, j < ds.length → ∀ k, (us.getD j undef).ownBlock = some k → w'.heap[k]? = w.heap[k]? := fun j hj k hk => by
      have q := (hu1 j hj).lt k hk
      exact g1.block k q.2 fun e2 => h4 j k (by omega) hk e2.symm
    have same2 : ∀ k, u.ownBlock = some k → w'.heap[k]? = w.heap[k]? := fun k hk => by
      have q := hd.lt k hk
      exact g1.block k q.2 fun e2 => by have := (hvB k e2.symm).2; have := q.1; omega
    have hlus : us.length = n := by have := hown.1; omega
    refine h v' w' (fun S' hS1 hS2 => ⟨us ++ [u], by simp [hl], r1, fun k hk => ?_, fun j hj => ?_, fun i j k hi2 hj2 hki hkj => ?_, fun j k hj hk => ?_⟩) g1 l1
    · have q := (r1.lt k hk).2
      rcases l1 with l1 | l1
      · rw [l1] at hk; exact hS1 k (hvB k hk).1
      · rw [l1] at hk; cases hk; exact hS2 _ hX q
    · rw [getD_snoc, getD_snoc]
      rw [List.length_append, List.length_singleton] at hj
      by_cases hlt : j < ds.length
      · rw [if_pos hlt, if_pos (by omega)]
        have q := (hu1 j hlt).same (same1 j hlt)
        exact q.wide fun k hk => hS1 k hk
      · have hjl : j = ds.length := by omega
        subst hjl
        rw [if_neg (Nat.lt_irrefl _), if_pos rfl, if_neg (by omega), if_pos (by omega)]
        have q := hd.same same2
        refine ⟨q.1, fun k hk => hS2 k (by have := q.2 k hk; simp only at this; omega) (by have := (hd.lt k hk).2; omega)⟩
    · rw [getD_snoc] at hki hkj
      rw [List.length_append, List.length_singleton] at hi2 hj2
      have old : ∀ j, j < us.length → ∀ k, (us.getD j undef).ownBlock = some k → k < X := fun j hj k hk => hS k ((hu1 j (by omega)).lt k hk).1
      by_cases e1 : i < us.length
      · rw [if_pos e1] at hki
        by_cases e2 : j < us.length
        · rw [if_pos e2] at hkj
          exact h3 i j k e1 e2 hki hkj
        · rw [if_neg e2, if_pos (by omega)] at hkj
          have := (hd.lt k hkj).1
          have := old i e1 k hki
          omega
      · rw [if_neg e1, if_pos (by omega)] at hki
        by_cases e2 : j < us.length
        · rw [if_pos e2] at hkj
          have := (hd.lt k hki).1
          have := old j e2 k hkj
          omega
        · omega
    · rw [getD_snoc] at hk
      rw [List.length_append, List.length_singleton] at hj
      by_cases e1 : j < us.length
      · rw [if_pos e1] at hk
        rcases l1 with l1 | l1
        · rw [l1]; exact h4 j k e1 hk
        · rw [l1]; intro e2; cases e2
          have := ((hu1 j (by omega)).lt _ hk).2
          omega
      · rw [if_neg e1, if_pos (by omega)] at hk
        have q := hd.lt k hk
        rcases l1 with l1 | l1
        · rw [l1]; intro e2; have := (hvB k e2).2; have := q.1; omega
        · rw [l1]; intro e2; cases e2; omega
end Go.Proofs.YtjbaebgdebcipaaGreatDoor
