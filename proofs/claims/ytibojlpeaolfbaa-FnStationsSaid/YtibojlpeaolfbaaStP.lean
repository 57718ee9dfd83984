/- Plain: the stations sorted, without doubles, are the set that the reference builds. -/
import Derived.Test.YtibojlpeaolfbaaSo
namespace Go.Proofs.Ytibojlpeaolfbaa
open Go Go.RowKit
open Go.Sort (ltInt insertionSort)

theorem asc_ext : ∀ (A B : List Int), A.Pairwise (· < ·) → B.Pairwise (· < ·) → (∀ x, x ∈ A ↔ x ∈ B) → A = B
  | [], [], _, _, _ => rfl
  | [], b :: B, _, _, h => by have := (h b).2 (by simp); simp at this
  | a :: A, [], _, _, h => by have := (h a).1 (by simp); simp at this
  | a :: A, b :: B, hA, hB, h => by
    obtain ⟨a1, a2⟩ := List.pairwise_cons.1 hA
    obtain ⟨b1, b2⟩ := List.pairwise_cons.1 hB
    have hab : a = b := by
      rcases List.mem_cons.1 ((h a).1 (by simp)) with e | e
      · exact e
      · rcases List.mem_cons.1 ((h b).2 (by simp)) with f | f
        · exact f.symm
        · have := b1 a e; have := a1 b f; omega
    subst hab
    rw [asc_ext A B a2 b2 (fun x => ?_)]
    constructor
    · intro hx
      have := a1 x hx
      rcases List.mem_cons.1 ((h x).1 (by simp [hx])) with e | e
      · omega
      · exact e
    · intro hx
      have := b1 x hx
      rcases List.mem_cons.1 ((h x).2 (by simp [hx])) with e | e
      · omega
      · exact e
theorem putL_mem (L : List Int) (n x : Int) : x ∈ putL L n ↔ x = n ∨ x ∈ L := by
  induction L with
  | nil => simp [putL]
  | cons y r ih =>
    unfold putL
    split
    · split
      · simp
      · have : n = y := by omega
        subst this
        simp
    · simp only [List.mem_cons, ih]
      constructor
      · rintro (h | h | h) <;> simp [h]
      · rintro (h | h | h) <;> simp [h]
theorem putL_asc (L : List Int) (n : Int) (h : L.Pairwise (· < ·)) : (putL L n).Pairwise (· < ·) := by
  induction L with
  | nil => simp [putL]
  | cons y r ih =>
    obtain ⟨h1, h2⟩ := List.pairwise_cons.1 h
    unfold putL
    split
    · split
      · refine List.pairwise_cons.2 ⟨fun z hz => ?_, h⟩
        rcases List.mem_cons.1 hz with e | e
        · omega
        · have := h1 z e; omega
      · exact h
    · refine List.pairwise_cons.2 ⟨fun z hz => ?_, ih h2⟩
      rcases (putL_mem r n z).1 hz with e | e
      · omega
      · exact h1 z e
theorem stTo_asc (Fs : List FM) (j : Nat) : (stTo Fs j).Pairwise (· < ·) := by
  induction j with
  | zero => simp [stTo]
  | succ j ih => exact putL_asc _ _ ih
theorem stTo_mem (Fs : List FM) (j : Nat) (x : Int) : x ∈ stTo Fs j ↔ ∃ k, k < j ∧ (frAt Fs k).st = x := by
  induction j with
  | zero => simp [stTo]
  | succ j ih =>
    rw [stTo, putL_mem, ih]
    constructor
    · rintro (h | ⟨k, hk, e⟩)
      · exact ⟨j, by omega, h.symm⟩
      · exact ⟨k, by omega, e⟩
    · rintro ⟨k, hk, e⟩
      by_cases h : k = j
      · subst h; exact .inl e.symm
      · exact .inr ⟨k, by omega, e⟩
theorem compact_asc (d : Array Int) (hs : ∀ i j, i < j → j < d.size → d[i]! ≤ d[j]!) : ∀ m, m ≤ d.size →
    (Lib.compactUpTo d m).Pairwise (· < ·) ∧ (∀ x, x ∈ Lib.compactUpTo d m ↔ ∃ j, j < m ∧ d[j]! = x) := by
  intro m
  induction m with
  | zero => intro _; simp [Lib.compactUpTo]
  | succ m ih =>
    intro hm
    obtain ⟨i1, i2⟩ := ih (by omega)
    rw [Lib.compactUpTo_succ]
    by_cases hk : Lib.keeps d m = true
    · rw [if_pos hk]
      have hle : ∀ x, x ∈ Lib.compactUpTo d m → x < d[m]! := by
        intro x hx
        obtain ⟨j, hj, e⟩ := (i2 x).1 hx
        have hne : d[m]! ≠ d[m - 1]! := by
          unfold Lib.keeps at hk
          simp at hk
          rcases hk with h | h
          · omega
          · exact h
        have h1 : d[m - 1]! ≤ d[m]! := hs _ _ (by omega) (by omega)
        have h2 : d[j]! ≤ d[m - 1]! := by
          by_cases c : j = m - 1
          · rw [c]; exact Int.le_refl _
          · exact hs _ _ (by omega) (by omega)
        omega
      refine ⟨List.pairwise_append.2 ⟨i1, by simp, fun a ha b hb => ?_⟩, fun x => ?_⟩
      · simp at hb; subst hb; exact hle a ha
      · rw [List.mem_append, i2]
        simp only [List.mem_singleton]
        constructor
        · rintro (⟨j, hj, e⟩ | h)
          · exact ⟨j, by omega, e⟩
          · exact ⟨m, by omega, h.symm⟩
        · rintro ⟨j, hj, e⟩
          by_cases c : j = m
          · subst c; exact .inr e.symm
          · exact .inl ⟨j, by omega, e⟩
    · rw [if_neg hk, List.append_nil]
      refine ⟨i1, fun x => ?_⟩
      rw [i2]
      constructor
      · rintro ⟨j, hj, e⟩
        exact ⟨j, by omega, e⟩
      · rintro ⟨j, hj, e⟩
        by_cases c : j = m
        · subst c
          have hm0 : j ≠ 0 := by intro h0; subst h0; exact hk (Lib.keeps_lt_one d 0 (by omega))
          have he : d[j]! = d[j - 1]! := by
            unfold Lib.keeps at hk
            simp at hk
            exact hk.2
          exact ⟨j - 1, by omega, by rw [← he]; exact e⟩
        · exact ⟨j, by omega, e⟩
theorem sorted_ok (d : Array Int) : (insertionSort ltInt d 0 d.size).size = d.size ∧ (∀ x, x ∈ (insertionSort ltInt d 0 d.size).toList ↔ x ∈ d.toList) ∧
    ∀ i j, i < j → j < d.size → (insertionSort ltInt d 0 d.size)[i]! ≤ (insertionSort ltInt d 0 d.size)[j]! := by
  obtain ⟨⟨h1, -, h3⟩, h4⟩ := Sort.insertionSort_holds Sort.swo_ltInt d 0 d.size (Nat.zero_le _) (Nat.le_refl _)
  refine ⟨h1, fun x => ?_, fun i j hi hj => ?_⟩
  · obtain ⟨R, hR⟩ : ∃ R, insertionSort ltInt d 0 d.size = R := ⟨_, rfl⟩
    rw [hR] at h1 h3 ⊢
    have e1 : R.extract 0 d.size = R := by rw [← h1]; exact Array.extract_size
    rw [e1, Array.extract_size] at h3
    exact h3.mem_iff
  · have := h4 i j (Nat.zero_le _) hi hj
    simp only [ltInt, decide_eq_false_iff_not] at this
    omega
theorem mem_arr (R : Array Int) (x : Int) : (∃ j, j < R.size ∧ R[j]! = x) ↔ x ∈ R.toList := by
  rw [List.mem_iff_getElem]
  constructor
  · rintro ⟨j, hj, rfl⟩
    exact ⟨j, by simpa using hj, by simp [getElem!_pos R j hj]⟩
  · rintro ⟨j, hj, rfl⟩
    have hj' : j < R.size := by simpa using hj
    exact ⟨j, hj', by simp [getElem!_pos R j hj']⟩
/-- What impl.stations answers. -/
def staI (L : List Int) : List Int := Lib.compactUpTo (insertionSort ltInt L.toArray 0 L.toArray.size) (insertionSort ltInt L.toArray 0 L.toArray.size).size
theorem sta_eq (Fs : List FM) (L : List Int) (hL : L.length = Fs.length) (hl : ∀ j, j < Fs.length → L.getD j 0 = (frAt Fs j).st) : staI L = stTo Fs Fs.length := by
  obtain ⟨h1, h2, h3⟩ := sorted_ok L.toArray
  have hS := fun hs m hm => compact_asc (insertionSort ltInt L.toArray 0 L.toArray.size) hs m hm
  have hs : ∀ i j, i < j → j < (insertionSort ltInt L.toArray 0 L.toArray.size).size → (insertionSort ltInt L.toArray 0 L.toArray.size)[i]! ≤ (insertionSort ltInt L.toArray 0 L.toArray.size)[j]! := by rw [h1]; exact h3
  obtain ⟨c1, c2⟩ := hS hs _ (Nat.le_refl _)
  refine asc_ext _ _ c1 (stTo_asc _ _) fun x => ?_
  unfold staI
  rw [c2, stTo_mem]
  rw [mem_arr, h2, List.mem_iff_getElem]
  constructor
  · rintro ⟨j, hj, rfl⟩
    have hj' : j < L.length := by simpa using hj
    refine ⟨j, by omega, ?_⟩
    rw [← hl j (by omega), List.getD_eq_getElem?_getD, List.getElem?_eq_getElem hj']
    simp
  · rintro ⟨j, hj, rfl⟩
    refine ⟨j, by simp; omega, ?_⟩
    rw [← hl j hj, List.getD_eq_getElem?_getD, List.getElem?_eq_getElem (by omega)]
    simp
end Go.Proofs.Ytibojlpeaolfbaa
