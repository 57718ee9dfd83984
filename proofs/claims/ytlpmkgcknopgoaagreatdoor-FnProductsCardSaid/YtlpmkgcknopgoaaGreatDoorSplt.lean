/- Plain: what strings.Split hands back is the text cut at the mark. -/
import Derived.Test.YtlpmkgcknopgoaaGreatDoorRdP
import Derived.Lib.SplitLaws
namespace Go.Proofs.YtlpmkgcknopgoaaGreatDoor
open Go

theorem splitK_cut (m : UInt8) : ∀ (n : Nat) (l : List UInt8), l.length ≤ n → Lib.splitK [m] 0 (Lib.count l [m]) l = cutL m l ∧ Lib.count l [m] + 1 = (cutL m l).length
  | n, l, hn => by
    have hix : Lib.index l [m] = Lib.indexByte l m := Lib.index_one l m
    have hge := Lib.indexByte_ge l m
    by_cases h : Lib.indexByte l m = -1
    · have h3 := Lib.indexByte_none h
      have hm : m ∉ l := fun hm => by
        obtain ⟨k, hk, e⟩ := List.mem_iff_getElem.1 hm
        exact h3 k (by rw [List.getElem?_eq_getElem hk, e])
      rw [Lib.count_miss (by rw [hix]; exact h), cutL_miss hm]
      exact ⟨rfl, rfl⟩
    · obtain ⟨i, hi⟩ : ∃ i : Nat, Lib.indexByte l m = i := ⟨(Lib.indexByte l m).toNat, by omega⟩
      obtain ⟨h1, h2⟩ := Lib.indexByte_some hi
      have hlt : i < l.length := (List.getElem?_eq_some_iff.1 h1).1
      have e := split_at h1
      have hc : Lib.count l [m] = Lib.count (l.drop (i + 1)) [m] + 1 := by rw [Lib.count_hit (by simp) (by rw [hix]; exact hi), List.length_singleton]; omega
      have hcut : cutL m l = l.take i :: cutL m (l.drop (i + 1)) := by
        conv => lhs; rw [e]
        rw [cutL_hit _ (not_mem_take h2)]
      match n, hn with
      | 0, hn => omega
      | n + 1, hn =>
        obtain ⟨k1, k2⟩ := splitK_cut m n (l.drop (i + 1)) (by rw [List.length_drop]; omega)
        rw [hc, hcut]
        refine ⟨?_, by simp only [List.length_cons]; omega⟩
        have hne : ¬ (Lib.index l [m] == -1) = true := fun e => by have := beq_iff_eq.1 e; omega
        have e2 : (Lib.index l [m]).toNat = i := by omega
        rw [Lib.splitK, if_neg hne, e2, List.length_singleton, k1, Nat.add_zero]
theorem splitB_cut (m : UInt8) (s : ByteArray) : Lib.splitB ⟨#[m]⟩ 0 (Lib.countB s ⟨#[m]⟩) s = cutB m s ∧ Lib.countB s ⟨#[m]⟩ + 1 = (cutB m s).length := by
  obtain ⟨h1, h2⟩ := splitK_cut m _ s.data.toList (Nat.le_refl _)
  have h3 := Lib.splitB_data ⟨#[m]⟩ 0 (Lib.countB s ⟨#[m]⟩) s
  have e : (⟨#[m]⟩ : ByteArray).data.toList = [m] := rfl
  refine ⟨?_, ?_⟩
  · unfold cutB
    show Lib.splitB ⟨#[m]⟩ 0 (Lib.count s.data.toList [m]) s = _
    rw [← h1]
    have h4 : (Lib.splitB ⟨#[m]⟩ 0 (Lib.count s.data.toList [m]) s).map (·.data.toList) = Lib.splitK [m] 0 (Lib.count s.data.toList [m]) s.data.toList := h3
    rw [← h4, List.map_map]
    conv => lhs; rw [← List.map_id (Lib.splitB ⟨#[m]⟩ 0 (Lib.count s.data.toList [m]) s)]
    exact List.map_congr_left fun x _ => (mkB_data x).symm
  · unfold cutB
    rw [List.length_map]
    exact h2
theorem cutB_small (m : UInt8) (s : ByteArray) (h : s.size ≤ 1048576) : (cutB m s).length ≤ 1048577 := by
  have h1 := (splitB_cut m s).2
  have h2 := Lib.countB_le ⟨#[m]⟩ (show 1 ≤ (⟨#[m]⟩ : ByteArray).size from Nat.le_refl 1) s.size s (Nat.le_refl _)
  omega
theorem cutB_part (m : UInt8) (s : ByteArray) (h : s.size ≤ 1048576) : ∀ t ∈ cutB m s, t.size ≤ 1048576 := by
  have key : ∀ l : List UInt8, ∀ x ∈ cutL m l, x.length ≤ l.length := by
    intro l
    induction l with
    | nil => intro x hx; simp [cutL] at hx; subst hx; simp
    | cons b r ih =>
      intro x hx
      unfold cutL at hx
      split at hx
      · rcases List.mem_cons.1 hx with h | h
        · subst h; simp
        · have := ih x h; simp; omega
      · split at hx
        · simp at hx; subst hx; simp
        · rename_i y ys he
          rcases List.mem_cons.1 hx with h | h
          · have := ih y (by rw [he]; simp); subst h; simp; omega
          · have := ih x (by rw [he]; exact List.mem_cons_of_mem _ h); simp; omega
  intro t ht
  unfold cutB at ht
  obtain ⟨x, hx, rfl⟩ := List.mem_map.1 ht
  have := key _ x hx
  rw [mkB_size]
  rw [Lib.size_eq] at h
  omega
end Go.Proofs.YtlpmkgcknopgoaaGreatDoor
