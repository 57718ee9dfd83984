/- Plain lists of numbers. -/
import Derived.Test.YthacadbdncfocaaFl
namespace Go.Proofs.Ythacadbdncfocaa
open Go
/-- The first k of a list, and zeros. -/
def upTo (l : List Nat) (k : Nat) : List Nat := (List.range l.length).map fun i => if i < k then l.getD i 0 else 0
theorem upTo_length (l : List Nat) (k : Nat) : (upTo l k).length = l.length := by simp [upTo]
theorem upTo_zero (l : List Nat) : upTo l 0 = List.replicate l.length 0 := by
  apply List.ext_getElem?
  intro i
  simp [upTo, List.getElem?_range, List.getElem?_replicate]
  by_cases h : i < l.length <;> simp [h]
theorem upTo_getD (l : List Nat) (k i : Nat) (h : i < l.length) : (upTo l k).getD i 0 = if i < k then l.getD i 0 else 0 := by
  simp [upTo, List.getD_eq_getElem?_getD, List.getElem?_map, List.getElem?_range h]
theorem upTo_all (l : List Nat) (k : Nat) (h : l.length ≤ k) : upTo l k = l := by
  apply List.ext_getElem?
  intro i
  by_cases hi : i < l.length
  · simp [upTo, List.getElem?_map, List.getElem?_range hi, show i < k by omega, hi]
  · simp [upTo, List.getElem?_eq_none (Nat.le_of_not_lt hi), hi]
theorem upTo_set (l : List Nat) (k : Nat) : (upTo l k).set k (l.getD k 0) = upTo l (k + 1) := by
  apply List.ext_getElem?
  intro i
  by_cases hi : i < l.length
  · by_cases h1 : k = i
    · subst h1; simp [upTo, List.getElem?_set, List.getElem?_map, List.getElem?_range hi, hi]
    · simp only [upTo, List.getElem?_set, List.getElem?_map, List.getElem?_range hi, if_neg h1, Option.map_some]
      by_cases h2 : i < k
      · simp [h2, show i < k + 1 by omega]
      · simp [h2, show ¬ i < k + 1 by omega]
  · rw [List.getElem?_eq_none (by simp [upTo_length]; omega), List.getElem?_eq_none (by simp [upTo_length]; omega)]
/-- The first k of a new list, and the others of an old one. -/
def mixTo (new old : List Nat) (k : Nat) : List Nat := (List.range old.length).map fun i => if i < k then new.getD i 0 else old.getD i 0
theorem mixTo_length (new old : List Nat) (k : Nat) : (mixTo new old k).length = old.length := by simp [mixTo]
theorem mixTo_zero (new old : List Nat) : mixTo new old 0 = old := by
  apply List.ext_getElem?
  intro i
  by_cases hi : i < old.length
  · simp [mixTo, List.getElem?_map, List.getElem?_range hi, hi]
  · simp [mixTo, List.getElem?_eq_none (Nat.le_of_not_lt hi), hi]
theorem mixTo_all (new old : List Nat) (k : Nat) (h : old.length ≤ k) (he : new.length = old.length) : mixTo new old k = new := by
  apply List.ext_getElem?
  intro i
  by_cases hi : i < old.length
  · simp [mixTo, List.getElem?_map, List.getElem?_range hi, show i < k by omega, show i < new.length by omega]
  · simp [mixTo, hi, List.getElem?_eq_none (show new.length ≤ i by omega)]
theorem mixTo_getD (new old : List Nat) (k i : Nat) (h : i < old.length) : (mixTo new old k).getD i 0 = if i < k then new.getD i 0 else old.getD i 0 := by
  simp [mixTo, List.getD_eq_getElem?_getD, List.getElem?_map, List.getElem?_range h]
theorem mixTo_set (new old : List Nat) (k : Nat) : (mixTo new old k).set k (new.getD k 0) = mixTo new old (k + 1) := by
  apply List.ext_getElem?
  intro i
  by_cases hi : i < old.length
  · by_cases h1 : k = i
    · subst h1; simp [mixTo, List.getElem?_set, List.getElem?_map, List.getElem?_range hi, hi]
    · simp only [mixTo, List.getElem?_set, List.getElem?_map, List.getElem?_range hi, if_neg h1, Option.map_some]
      by_cases h2 : i < k
      · simp [h2, show i < k + 1 by omega]
      · simp [h2, show ¬ i < k + 1 by omega]
  · rw [List.getElem?_eq_none (by simp [mixTo_length]; omega), List.getElem?_eq_none (by simp [mixTo_length]; omega)]
theorem getD_push (l : List Nat) (x i : Nat) (h : i < l.length) : (l ++ [x]).getD i 0 = l.getD i 0 := by
  simp [List.getD_eq_getElem?_getD, List.getElem?_append_left h]
theorem getD_push_last (l : List Nat) (x : Nat) : (l ++ [x]).getD l.length 0 = x := by
  simp [List.getD_eq_getElem?_getD]
/-- The list of the numbers f i. -/
def tab (f : Nat → Nat) (n : Nat) : List Nat := (List.range n).map f
theorem tab_length (f : Nat → Nat) (n : Nat) : (tab f n).length = n := by simp [tab]
theorem tab_getD (f : Nat → Nat) (n i : Nat) (h : i < n) : (tab f n).getD i 0 = f i := by
  simp [tab, List.getD_eq_getElem?_getD, List.getElem?_map, List.getElem?_range h]
theorem tab_succ (f : Nat → Nat) (n : Nat) : tab f (n + 1) = tab f n ++ [f n] := by simp [tab, List.range_succ]
theorem tab_congr {f g : Nat → Nat} {n : Nat} (h : ∀ i, i < n → f i = g i) : tab f n = tab g n := by
  unfold tab; exact List.map_congr_left fun i hi => h i (by simpa using hi)
theorem eq_tab (l : List Nat) : l = tab (fun i => l.getD i 0) l.length := by
  apply List.ext_getElem?
  intro i
  by_cases hi : i < l.length
  · simp [tab, List.getElem?_map, List.getElem?_range hi, hi]
  · simp [tab, List.getElem?_eq_none (Nat.le_of_not_lt hi), hi]
end Go.Proofs.Ythacadbdncfocaa
