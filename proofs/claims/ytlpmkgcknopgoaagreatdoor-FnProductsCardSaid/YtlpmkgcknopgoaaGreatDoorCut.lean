/- Plain lists: a text cut at a mark, and the lines of a text. -/
import Derived.Lib.IndexLaws
import Derived.Lib.IndexBytes
import Derived.Test.YtlpmkgcknopgoaaGreatDoorChecked
namespace Go.Proofs.YtlpmkgcknopgoaaGreatDoor
open Go

def cutL (m : UInt8) : List UInt8 → List (List UInt8)
  | [] => [[]]
  | b :: r => if b = m then [] :: cutL m r else match cutL m r with
    | [] => [[b]]
    | x :: xs => (b :: x) :: xs
def linesL : List UInt8 → List (List UInt8)
  | [] => []
  | b :: r => if b = 10 then [10] :: linesL r else match linesL r with
    | [] => [[b]]
    | x :: xs => (b :: x) :: xs
theorem cutL_ne (m : UInt8) (l : List UInt8) : cutL m l ≠ [] := by
  cases l with
  | nil => simp [cutL]
  | cons b r =>
    unfold cutL
    split
    · simp
    · split <;> simp
theorem cutL_miss {m : UInt8} : ∀ {l : List UInt8}, m ∉ l → cutL m l = [l]
  | [], _ => rfl
  | b :: r, h => by
    have h1 : b ≠ m := fun e => h (by simp [e])
    have h2 : m ∉ r := fun e => h (by simp [e])
    unfold cutL
    rw [if_neg h1, cutL_miss h2]
theorem cutL_hit {m : UInt8} (rest : List UInt8) : ∀ {l : List UInt8}, m ∉ l → cutL m (l ++ m :: rest) = l :: cutL m rest
  | [], _ => by rw [List.nil_append, cutL, if_pos rfl]
  | b :: r, h => by
    have h1 : b ≠ m := fun e => h (by simp [e])
    have h2 : m ∉ r := fun e => h (by simp [e])
    rw [List.cons_append, cutL, if_neg h1, cutL_hit rest h2]
theorem linesL_miss : ∀ {l : List UInt8}, (10 : UInt8) ∉ l → l ≠ [] → linesL l = [l]
  | [], _, h => absurd rfl h
  | [b], h, _ => by
    have h1 : b ≠ 10 := fun e => h (by simp [e])
    simp [linesL, h1]
  | b :: c :: r, h, _ => by
    have h1 : b ≠ 10 := fun e => h (by simp [e])
    have h2 : (10 : UInt8) ∉ c :: r := fun e => h (List.mem_cons_of_mem _ e)
    rw [linesL, if_neg h1, linesL_miss h2 (by simp)]
theorem linesL_hit (rest : List UInt8) : ∀ {l : List UInt8}, (10 : UInt8) ∉ l → linesL (l ++ 10 :: rest) = (l ++ [10]) :: linesL rest
  | [], _ => by rw [List.nil_append, linesL, if_pos rfl]; rfl
  | b :: r, h => by
    have h1 : b ≠ 10 := fun e => h (by simp [e])
    have h2 : (10 : UInt8) ∉ r := fun e => h (by simp [e])
    rw [List.cons_append, linesL, if_neg h1, linesL_hit rest h2]
    rfl
/-- The parts of a text at the newlines, and its lines. -/
theorem lines_cut : ∀ l : List UInt8, ∃ (xs : List (List UInt8)) (z : List UInt8), cutL 10 l = xs ++ [z] ∧ linesL l = xs.map (· ++ [10]) ++ (if z = [] then [] else [z])
  | [] => ⟨[], [], rfl, rfl⟩
  | b :: r => by
    obtain ⟨xs, z, h1, h2⟩ := lines_cut r
    unfold cutL linesL
    rw [h1, h2]
    by_cases hb : b = 10
    · rw [if_pos hb, if_pos hb]
      exact ⟨[] :: xs, z, rfl, rfl⟩
    · rw [if_neg hb, if_neg hb]
      cases xs with
      | nil =>
        refine ⟨[], b :: z, rfl, ?_⟩
        by_cases hz : z = []
        · simp [hz]
        · simp [hz]
      | cons x xs => exact ⟨(b :: x) :: xs, z, rfl, rfl⟩
/-- The last part is empty just where the text is, or ends with a newline. -/
theorem cut_last : ∀ (l : List UInt8) (xs : List (List UInt8)) (z : List UInt8), cutL 10 l = xs ++ [z] → (z = [] ↔ l = [] ∨ l.getLast? = some 10)
  | [], xs, z, h => by
    cases xs with
    | nil => simp [cutL] at h; simp [h]
    | cons x xs => simp [cutL] at h
  | b :: r, xs, z, h => by
    obtain ⟨ys, y, h1⟩ : ∃ ys y, cutL 10 r = ys ++ [y] := ⟨(cutL 10 r).dropLast, _, (List.dropLast_concat_getLast (cutL_ne 10 r)).symm⟩
    have ih := cut_last r ys y h1
    unfold cutL at h
    rw [h1] at h
    by_cases hb : b = 10
    · rw [if_pos hb] at h
      have hz : y = z := by
        have := congrArg List.getLast? h
        rw [← List.cons_append, List.getLast?_concat, List.getLast?_concat] at this
        exact Option.some.inj this
      rw [← hz, ih]
      cases r with
      | nil => simp [hb]
      | cons c r => simp
    · rw [if_neg hb] at h
      cases ys with
      | nil =>
        simp at h
        have hz : z = b :: y := by
          have := congrArg List.getLast? h
          simpa using this.symm
        rw [hz]
        have hr : ¬ (r.getLast? = some 10) := by
          intro hc
          have : y = [] := ih.2 (.inr hc)
          rw [this] at h1
          cases r with
          | nil => simp at hc
          | cons c r =>
            have := lines_cut (c :: r)
            obtain ⟨xs', z', e1, e2⟩ := this
            rw [h1] at e1
            cases xs' with
            | nil =>
              obtain rfl : z' = [] := by simpa using e1.symm
              unfold linesL at e2
              split at e2
              · simp at e2
              · split at e2 <;> simp at e2
            | cons u us => simp at e1
        simp only [reduceCtorEq, false_iff, not_or]
        refine ⟨by simp, fun hc => ?_⟩
        cases r with
        | nil => simp at hc; exact hb hc
        | cons c r => rw [List.getLast?_cons_cons] at hc; exact hr hc
      | cons x ys =>
        have hz : y = z := by
          have := congrArg List.getLast? h
          rw [List.cons_append] at this
          simp only at this
          rw [← List.cons_append, List.getLast?_concat, List.getLast?_concat] at this
          exact Option.some.inj this
        rw [← hz, ih]
        cases r with
        | nil => simp [cutL] at h1
        | cons c r => simp

def mkB (l : List UInt8) : ByteArray := ⟨l.toArray⟩
def cutB (m : UInt8) (s : ByteArray) : List ByteArray := (cutL m s.data.toList).map mkB
def lnsB (s : ByteArray) : List ByteArray := (linesL s.data.toList).map mkB
theorem mkB_data (s : ByteArray) : mkB s.data.toList = s := Lib.mk_data s
theorem mkB_size (l : List UInt8) : (mkB l).size = l.length := by simp [mkB, Lib.size_eq]
theorem mkB_ext (s : ByteArray) (a b : Nat) : s.extract a b = mkB ((s.data.toList.drop a).take (b - a)) := Lib.extract_eq s a b
theorem mkB_inj {a b : List UInt8} (h : mkB a = mkB b) : a = b := by
  have := congrArg (fun x : ByteArray => x.data.toList) h
  simpa [mkB] using this
theorem mkB_list (l : List UInt8) : (mkB l).data.toList = l := by simp [mkB]
theorem split_at {l : List UInt8} {i : Nat} {c : UInt8} (h : l[i]? = some c) : l = l.take i ++ c :: l.drop (i + 1) := by
  obtain ⟨hi, hc⟩ := List.getElem?_eq_some_iff.1 h
  rw [← hc, ← List.drop_eq_getElem_cons hi, List.take_append_drop]
theorem not_mem_take {l : List UInt8} {i : Nat} {c : UInt8} (h : ∀ k, k < i → l[k]? ≠ some c) : c ∉ l.take i := by
  intro hm
  obtain ⟨k, hk, e⟩ := List.mem_iff_getElem.1 hm
  simp only [List.length_take] at hk
  refine h k (by omega) ?_
  rw [List.getElem?_eq_getElem (by omega)]
  rw [List.getElem_take] at e
  rw [e]
/-- A text whose first newline is at i. -/
theorem lnsB_hit {r : ByteArray} {i : Nat} (h : Lib.indexByte r.data.toList 10 = i) : i < r.size ∧ lnsB r = r.extract 0 (i + 1) :: lnsB (r.extract (i + 1) r.size) := by
  obtain ⟨h1, h2⟩ := Lib.indexByte_some h
  have hlt : i < r.data.toList.length := (List.getElem?_eq_some_iff.1 h1).1
  refine ⟨by rw [Lib.size_eq]; exact hlt, ?_⟩
  have e := split_at h1
  unfold lnsB
  conv => lhs; rw [e]
  rw [linesL_hit _ (not_mem_take h2), List.map_cons]
  congr 1
  · rw [mkB_ext]
    congr 1
    rw [List.drop_zero, Nat.sub_zero, List.take_add_one, h1]
    rfl
  · rw [Lib.extract_to_end]
theorem lnsB_miss {r : ByteArray} (h : Lib.indexByte r.data.toList 10 < 0) (h0 : 0 < r.size) : lnsB r = [r] := by
  have h2 := Lib.indexByte_ge r.data.toList 10
  have h3 := Lib.indexByte_none (l := r.data.toList) (c := 10) (by omega)
  unfold lnsB
  rw [linesL_miss ?_ ?_]
  · simp [mkB_data]
  · intro hm
    obtain ⟨k, hk, e⟩ := List.mem_iff_getElem.1 hm
    exact h3 k (by rw [List.getElem?_eq_getElem hk, e])
  · intro e
    rw [Lib.size_eq, e] at h0
    simp at h0
theorem lnsB_nil {r : ByteArray} (h0 : r.size = 0) : lnsB r = [] := by
  have : r.data.toList = [] := List.eq_nil_of_length_eq_zero (by rw [← Lib.size_eq]; exact h0)
  unfold lnsB
  rw [this]
  rfl
/-- No mark in the places from 'a' on, ahead of i. -/
def NoM (m : UInt8) (s : ByteArray) (a i : Nat) : Prop := ∀ k, a ≤ k → k < i → s.data.toList[k]? ≠ some m
theorem NoM.nil (m : UInt8) (s : ByteArray) (a : Nat) : NoM m s a a := fun k h1 h2 => by omega
theorem NoM.succ {m : UInt8} {s : ByteArray} {a i : Nat} (h : NoM m s a i) (hi : s.data.toList[i]? ≠ some m) : NoM m s a (i + 1) := fun k h1 h2 => by
  by_cases e : k = i
  · subst e; exact hi
  · exact h k h1 (by omega)
theorem cutB_hit {m : UInt8} {s : ByteArray} {a i : Nat} (h : NoM m s a i) (ha : a ≤ i) (hi : s.data.toList[i]? = some m) :
    cutB m (s.extract a s.size) = s.extract a i :: cutB m (s.extract (i + 1) s.size) := by
  have h1 : (s.data.toList.drop a)[i - a]? = some m := by rw [List.getElem?_drop, show a + (i - a) = i by omega]; exact hi
  have e := split_at h1
  unfold cutB
  rw [Lib.extract_to_end, Lib.extract_to_end]
  conv => lhs; rw [e]
  rw [cutL_hit _ (not_mem_take fun k hk => ?_), List.map_cons]
  · rw [mkB_ext, List.drop_drop, show a + (i - a + 1) = i + 1 by omega]
  · rw [List.getElem?_drop]
    exact h (a + k) (by omega) (by omega)
theorem cutB_end {m : UInt8} {s : ByteArray} {a : Nat} (h : NoM m s a s.size) : cutB m (s.extract a s.size) = [s.extract a s.size] := by
  unfold cutB
  rw [Lib.extract_to_end, cutL_miss ?_]
  · rw [List.map_cons, List.map_nil, mkB_ext]
    congr 2
    rw [List.take_of_length_le]
    rw [List.length_drop, ← Lib.size_eq]
    exact Nat.le_refl _
  · intro hm
    obtain ⟨k, hk, e⟩ := List.mem_iff_getElem.1 hm
    rw [List.length_drop, ← Lib.size_eq] at hk
    rw [List.getElem_drop] at e
    refine h (a + k) (by omega) (by omega) ?_
    rw [List.getElem?_eq_getElem (by rw [← Lib.size_eq]; omega), e]
theorem extract_all (s : ByteArray) : s.extract 0 s.size = s := by
  rw [mkB_ext, List.drop_zero, Nat.sub_zero, Lib.size_eq, List.take_length, mkB_data]
theorem cutL_len (m : UInt8) : ∀ l : List UInt8, (cutL m l).length ≤ l.length + 1
  | [] => Nat.le_refl _
  | b :: r => by
    have := cutL_len m r
    unfold cutL
    split
    · simp; exact this
    · have h2 := cutL_ne m r
      split
      · rename_i h; exact absurd h h2
      · rename_i h; rw [h] at this; simp at this ⊢; omega
theorem cutB_len (m : UInt8) (s : ByteArray) : (cutB m s).length ≤ s.size + 1 := by
  unfold cutB
  rw [List.length_map, Lib.size_eq]
  exact cutL_len m _
end Go.Proofs.YtlpmkgcknopgoaaGreatDoor
