/- Walks: copies that the laws make of lists of lists, gathers and desks. -/
import Derived.Test.YtjbaebgdebcipaaGreatDoorL6
namespace Go.Proofs.YtjbaebgdebcipaaGreatDoor
open Go Go.RowKit

/-- The first k of a new list, and the others of an old one. -/
def mixD (new old : List D1) (k : Nat) : List D1 := (List.range old.length).map fun i => if i < k then new.getD i default else old.getD i default
theorem mixD_length (new old : List D1) (k : Nat) : (mixD new old k).length = old.length := by simp [mixD]
theorem mixD_zero (new old : List D1) : mixD new old 0 = old := by
  apply List.ext_getElem?
  intro i
  by_cases hi : i < old.length
  · simp [mixD, List.getElem?_map, List.getElem?_range hi, hi]
  · simp [mixD, List.getElem?_eq_none (Nat.le_of_not_lt hi), hi]
theorem mixD_all (new old : List D1) (k : Nat) (h : old.length ≤ k) (he : new.length = old.length) : mixD new old k = new := by
  apply List.ext_getElem?
  intro i
  by_cases hi : i < old.length
  · simp [mixD, List.getElem?_map, List.getElem?_range hi, show i < k by omega, show i < new.length by omega]
  · simp [mixD, hi, List.getElem?_eq_none (show new.length ≤ i by omega)]
theorem mixD_getD (new old : List D1) (k i : Nat) (h : i < old.length) : (mixD new old k).getD i default = if i < k then new.getD i default else old.getD i default := by
  simp [mixD, List.getD_eq_getElem?_getD, List.getElem?_map, List.getElem?_range h]
theorem mixD_set (new old : List D1) (k : Nat) : (mixD new old k).set k (new.getD k default) = mixD new old (k + 1) := by
  apply List.ext_getElem?
  intro i
  by_cases hi : i < old.length
  · by_cases h1 : k = i
    · subst h1; simp [mixD, List.getElem?_set, List.getElem?_map, List.getElem?_range hi, hi]
    · simp only [mixD, List.getElem?_set, List.getElem?_map, List.getElem?_range hi, if_neg h1, Option.map_some]
      by_cases h2 : i < k
      · simp [h2, show i < k + 1 by omega]
      · simp [h2, show ¬ i < k + 1 by omega]
  · rw [List.getElem?_eq_none (by simp [mixD_length]; omega), List.getElem?_eq_none (by simp [mixD_length]; omega)]
theorem fs_getD (Ls : List (List Nat)) (k : Nat) (h : k < Ls.length) : (Ls.map D1.fs).getD k default = .fs (rowAt Ls k) := by
  simp [rowAt, List.getD_eq_getElem?_getD, List.getElem?_map, List.getElem?_eq_getElem h]

theorem Tryz.infoFS : (Tryz.prog.info? 29).map (fun i => (i.zero, i.size, i.bytes)) = some (some (.slice none 0 0), 1, 24) := by kernel_rfl

end Go.Proofs.YtjbaebgdebcipaaGreatDoor
