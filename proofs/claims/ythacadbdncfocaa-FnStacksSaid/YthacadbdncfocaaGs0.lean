/- Plain: things put in order, one after another: the order, and that nothing is lost. -/
import Derived.Sort.WalkA
import Derived.Sort.Lot0
namespace Go.Proofs.Ythacadbdncfocaa
open Go Go.RowKit
open Go.Sort (swp insInner insOuter insertionSort)
section
variable {α : Type} (lt : α → α → Bool)
def insRev (x : α) : List α → List α
  | [] => [x]
  | y :: r => if lt x y then y :: insRev x r else x :: y :: r
/-- A thing put into a list, behind all that are not greater. -/
def insR (x : α) (L : List α) : List α := (insRev lt x L.reverse).reverse
theorem insR_nil (x : α) : insR lt x [] = [x] := rfl
theorem insR_snoc (x y : α) (A : List α) : insR lt x (A ++ [y]) = if lt x y then insR lt x A ++ [y] else A ++ [y] ++ [x] := by
  unfold insR
  rw [List.reverse_append]
  show (insRev lt x (y :: A.reverse)).reverse = _
  rw [insRev]
  by_cases h : lt x y = true
  · rw [if_pos h, if_pos h]; simp
  · rw [if_neg h, if_neg h]; simp
theorem insRev_length (x : α) (L : List α) : (insRev lt x L).length = L.length + 1 := by
  induction L with
  | nil => rfl
  | cons y r ih => rw [insRev]; split <;> simp [ih]
theorem insR_length (x : α) (L : List α) : (insR lt x L).length = L.length + 1 := by
  unfold insR; rw [List.length_reverse, insRev_length, List.length_reverse]
theorem insRev_mem (x z : α) (L : List α) : z ∈ insRev lt x L ↔ z = x ∨ z ∈ L := by
  induction L with
  | nil => simp [insRev]
  | cons y r ih =>
    rw [insRev]
    split
    · simp only [List.mem_cons, ih]
      constructor
      · rintro (h | h | h) <;> simp [h]
      · rintro (h | h | h) <;> simp [h]
    · simp
theorem insR_mem (x z : α) (L : List α) : z ∈ insR lt x L ↔ z = x ∨ z ∈ L := by
  unfold insR; rw [List.mem_reverse, insRev_mem, List.mem_reverse]
theorem insRev_map {β : Type} (g : α → β) (lt2 : β → β → Bool) (hg : ∀ x y, lt2 (g x) (g y) = lt x y) (x : α) (L : List α) : (insRev lt x L).map g = insRev lt2 (g x) (L.map g) := by
  induction L with
  | nil => rfl
  | cons y r ih =>
    rw [insRev, List.map_cons, insRev, hg]
    by_cases h : lt x y = true
    · rw [if_pos h, if_pos h, List.map_cons, ih]
    · rw [if_neg h, if_neg h]; rfl
theorem insR_map {β : Type} (g : α → β) (lt2 : β → β → Bool) (hg : ∀ x y, lt2 (g x) (g y) = lt x y) (x : α) (L : List α) : (insR lt x L).map g = insR lt2 (g x) (L.map g) := by
  unfold insR
  rw [List.map_reverse, insRev_map lt g lt2 hg, List.map_reverse]
/-- All of a list, one after another. -/
def insAll : List α → List α → List α
  | acc, [] => acc
  | acc, x :: r => insAll (insR lt x acc) r
theorem insAll_snoc (acc L : List α) (x : α) : insAll lt acc (L ++ [x]) = insR lt x (insAll lt acc L) := by
  induction L generalizing acc with
  | nil => rfl
  | cons y r ih => exact ih _
theorem insAll_map {β : Type} (g : α → β) (lt2 : β → β → Bool) (hg : ∀ x y, lt2 (g x) (g y) = lt x y) (acc L : List α) : (insAll lt acc L).map g = insAll lt2 (acc.map g) (L.map g) := by
  induction L generalizing acc with
  | nil => rfl
  | cons x r ih =>
    show (insAll lt (insR lt x acc) r).map g = insAll lt2 (insR lt2 (g x) (acc.map g)) (r.map g)
    rw [ih, insR_map lt g lt2 hg]
theorem insAll_mem (acc L : List α) (z : α) : z ∈ insAll lt acc L ↔ z ∈ acc ∨ z ∈ L := by
  induction L generalizing acc with
  | nil => simp [insAll]
  | cons x r ih =>
    show z ∈ insAll lt (insR lt x acc) r ↔ _
    rw [ih, insR_mem, List.mem_cons]
    constructor
    · rintro ((h | h) | h) <;> simp [h]
    · rintro (h | h | h) <;> simp [h]
theorem insAll_length (acc L : List α) : (insAll lt acc L).length = acc.length + L.length := by
  induction L generalizing acc with
  | nil => rfl
  | cons x r ih =>
    show (insAll lt (insR lt x acc) r).length = _
    rw [ih, insR_length, List.length_cons]; omega

variable [Inhabited α]
theorem swp_back (A B : List α) (x y : α) (d : Array α) (h : d.toList = A ++ y :: x :: B) : (swp d (A.length + 1) A.length).toList = A ++ x :: y :: B := by
  have hs : d.size = A.length + (B.length + 2) := by rw [← Array.length_toList, h]; simp
  have h0 : d[A.length]! = y := by
    rw [getElem!_pos d A.length (by omega), ← Array.getElem_toList]
    simp [h]
  have h1 : d[A.length + 1]! = x := by
    rw [getElem!_pos d (A.length + 1) (by omega), ← Array.getElem_toList]
    simp [h]
  unfold swp
  rw [h0, h1, Array.toList_setIfInBounds, Array.toList_setIfInBounds, h]
  rw [List.set_append_right _ _ (by omega), List.set_append_right _ _ (by omega)]
  rw [show A.length + 1 - A.length = 1 by omega, Nat.sub_self]
  rfl
theorem insInner_is (j : Nat) (A B : List α) (x : α) (d : Array α) (hj : A.length = j) (h : d.toList = A ++ x :: B) : (insInner lt 0 j d).toList = insR lt x A ++ B := by
  induction j generalizing A B d with
  | zero =>
    obtain rfl := List.eq_nil_of_length_eq_zero hj
    rw [insInner, h]; rfl
  | succ j ih =>
    obtain ⟨A', y, rfl⟩ : ∃ A' y, A = A' ++ [y] := ⟨A.dropLast, A.getLast (by intro e; subst e; simp at hj), (List.dropLast_concat_getLast _).symm⟩
    have hA : A'.length = j := by simpa using hj
    have hs : d.size = j + 1 + (B.length + 1) := by rw [← Array.length_toList, h]; simp; omega
    have h0 : d[j]! = y := by
      rw [getElem!_pos d j (by omega), ← Array.getElem_toList]
      simp [h, ← hA]
    have h1 : d[j + 1]! = x := by
      rw [getElem!_pos d (j + 1) (by omega), ← Array.getElem_toList]
      simp [h, ← hA]
    rw [insInner, h0, h1, insR_snoc]
    by_cases hl : lt x y = true
    · rw [if_pos hl, if_pos (by simp [hl])]
      rw [ih A' (y :: B) _ hA (by rw [← hA]; exact swp_back A' B x y d (by rw [h]; simp))]
      simp
    · rw [if_neg hl, if_neg (by simp [hl]), h]
      simp
theorem insOuter_is (k i : Nat) (d0 : List α) (acc : List α) (d : Array α) (hk : d0.length = i + k) (hi : acc.length = i) (h : d.toList = acc ++ d0.drop i) (ha : acc = insAll lt [] (d0.take i)) :
    (insOuter lt 0 d0.length i d).toList = insAll lt [] d0 := by
  induction k generalizing i acc d with
  | zero =>
    rw [insOuter, if_neg (by omega), h, ha, show i = d0.length by omega]
    simp
  | succ k ih =>
    have hlt : i < d0.length := by omega
    rw [insOuter, if_pos hlt]
    have hd : d0.drop i = d0[i] :: d0.drop (i + 1) := List.drop_eq_getElem_cons hlt
    have h1 := insInner_is lt i acc (d0.drop (i + 1)) d0[i] d hi (by rw [h, hd])
    refine ih (i + 1) _ _ (by omega) (by rw [insR_length, hi]) h1 ?_
    rw [List.take_add_one, List.getElem?_eq_getElem hlt]
    show _ = insAll lt [] (d0.take i ++ [d0[i]])
    rw [insAll_snoc, ← ha]
theorem insertionSort_is (d : Array α) : (insertionSort lt d 0 d.size).toList = insAll lt [] d.toList := by
  unfold insertionSort
  cases hd : d.toList with
  | nil =>
    have hs : d.size = 0 := by rw [← Array.length_toList, hd]; rfl
    rw [insOuter, if_neg (by omega), hd]; rfl
  | cons x r =>
    have hs : d.size = (x :: r).length := by rw [← Array.length_toList, hd]
    rw [hs]
    exact insOuter_is lt r.length 1 (x :: r) [x] d (by simp; omega) rfl (by rw [hd]; rfl) rfl
end


theorem insRev_perm {α : Type} (lt : α → α → Bool) (x : α) (L : List α) : (insRev lt x L).Perm (x :: L) := by
  induction L with
  | nil => exact List.Perm.refl _
  | cons y r ih =>
    rw [insRev]
    split
    · exact (List.Perm.cons y ih).trans (List.Perm.swap x y r)
    · exact List.Perm.refl _
theorem insR_perm {α : Type} (lt : α → α → Bool) (x : α) (L : List α) : (insR lt x L).Perm (x :: L) := by
  unfold insR
  refine (List.reverse_perm _).trans ((insRev_perm lt x L.reverse).trans (List.Perm.cons x (List.reverse_perm _)))
theorem insAll_perm {α : Type} (lt : α → α → Bool) (acc L : List α) : (insAll lt acc L).Perm (acc ++ L) := by
  induction L generalizing acc with
  | nil => simp [insAll]
  | cons x r ih =>
    show (insAll lt (insR lt x acc) r).Perm _
    refine (ih _).trans (((insR_perm lt x acc).append_right r).trans ?_)
    show (x :: (acc ++ r)).Perm (acc ++ x :: r)
    exact List.perm_middle.symm
/-- Rows in descending order. -/
def Desc {α : Type} (κ : α → Int) (L : List α) : Prop := List.Pairwise (fun a b => κ b ≤ κ a) L
theorem insRev_desc {α : Type} (κ : α → Int) (x : α) (L : List α) (h : Desc κ L) : Desc κ (insRev (fun a b => decide (κ a < κ b)) x L) := by
  induction L with
  | nil => exact List.pairwise_singleton _ _
  | cons y r ih =>
    rw [insRev]
    obtain ⟨h1, h2⟩ := List.pairwise_cons.1 h
    by_cases hl : κ x < κ y
    · rw [if_pos (by simpa using hl)]
      refine List.pairwise_cons.2 ⟨fun z hz => ?_, ih h2⟩
      rcases (insRev_mem _ _ _ _).1 hz with rfl | hz
      · omega
      · exact h1 z hz
    · rw [if_neg (by simpa using hl)]
      refine List.pairwise_cons.2 ⟨fun z hz => ?_, h⟩
      rcases List.mem_cons.1 hz with rfl | hz
      · omega
      · have := h1 z hz; omega
theorem insAll_asc {α : Type} (κ : α → Int) (acc L : List α) (h : Desc κ acc.reverse) : Desc κ (insAll (fun a b => decide (κ a < κ b)) acc L).reverse := by
  induction L generalizing acc with
  | nil => exact h
  | cons x r ih =>
    refine ih _ ?_
    unfold insR
    rw [List.reverse_reverse]
    exact insRev_desc κ x _ h
theorem insAll_sorted {α : Type} (κ : α → Int) (L : List α) : List.Pairwise (fun a b => κ a ≤ κ b) (insAll (fun a b => decide (κ a < κ b)) [] L) := by
  have := insAll_asc κ [] L List.Pairwise.nil
  unfold Desc at this
  rwa [List.pairwise_reverse] at this
end Go.Proofs.Ythacadbdncfocaa
