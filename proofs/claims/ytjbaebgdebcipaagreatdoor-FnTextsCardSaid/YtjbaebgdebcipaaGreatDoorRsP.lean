/- Plain: the section that a text tells. -/
import Derived.Test.YtjbaebgdebcipaaGreatDoorDcP
import Derived.Test.YtjbaebgdebcipaaGreatDoorSplt
import Derived.Test.YtjbaebgdebcipaaGreatDoorW45
namespace Go.Proofs.YtjbaebgdebcipaaGreatDoor
open Go

def bef (m : UInt8) (t : ByteArray) : ByteArray := ⟨(Lib.cut t.data.toList [m]).1.toArray⟩
def aft (m : UInt8) (t : ByteArray) : ByteArray := ⟨(Lib.cut t.data.toList [m]).2.1.toArray⟩
noncomputable def rs (t : ByteArray) : Option SM := match rl (bef 58 t) with
  | none => none
  | some D => match rn 256 (aft 58 t) with
    | none => none
    | some V => if D.length = 2 then (if validS ⟨D.getD 0 0, D.getD 1 0, V⟩ = true then some ⟨D.getD 0 0, D.getD 1 0, V⟩ else none) else none
theorem bef_size (m : UInt8) (t : ByteArray) (h : t.size ≤ 1048576) : (bef m t).size ≤ 1048576 := by
  rw [Lib.size_eq] at h ⊢
  show (Lib.cut t.data.toList [m]).1.toArray.toList.length ≤ 1048576
  simp only [Lib.cut]
  split
  · simp only [List.length_take]; omega
  · exact h
theorem aft_size (m : UInt8) (t : ByteArray) (h : t.size ≤ 1048576) : (aft m t).size ≤ 1048576 := by
  rw [Lib.size_eq] at h ⊢
  show (Lib.cut t.data.toList [m]).2.1.toArray.toList.length ≤ 1048576
  simp only [Lib.cut]
  split
  · simp only [List.length_drop]; omega
  · simp
/-- No part of a number's text is another byte. -/
theorem digH_bytes (d : Nat) (h : d < 16) : digH d ≠ 58 ∧ digH d ≠ 59 ∧ digH d ≠ 47 := by
  have : ∀ d : Fin 16, digH d.1 ≠ 58 ∧ digH d.1 ≠ 59 ∧ digH d.1 ≠ 47 := by decide
  exact this ⟨d, h⟩
theorem digs_mem (k n : Nat) : ∀ c ∈ digs k n, ∃ d, d < 16 ∧ c = digH d := by
  induction k generalizing n with
  | zero => intro c hc; simp [digs] at hc
  | succ k ih =>
    intro c hc
    rw [digs] at hc
    rcases List.mem_append.1 hc with h | h
    · exact ih _ c h
    · exact ⟨n % 16, Nat.mod_lt _ (by decide), List.mem_singleton.1 h⟩
theorem cutL_mem (m x : UInt8) (hx : x ≠ m) : ∀ l : List UInt8, x ∈ l → ∃ p ∈ cutL m l, x ∈ p
  | [], h => by cases h
  | b :: r, h => by
    unfold cutL
    by_cases hb : b = m
    · rw [if_pos hb]
      rcases List.mem_cons.1 h with e | h
      · exact absurd (e.trans hb) hx
      · obtain ⟨p, hp, hxp⟩ := cutL_mem m x hx r h
        exact ⟨p, List.mem_cons_of_mem _ hp, hxp⟩
    · rw [if_neg hb]
      cases he : cutL m r with
      | nil => exact absurd he (cutL_ne m r)
      | cons y ys =>
        simp only
        rcases List.mem_cons.1 h with e | h
        · exact ⟨b :: y, List.mem_cons_self .., by rw [e]; exact List.mem_cons_self ..⟩
        · obtain ⟨p, hp, hxp⟩ := cutL_mem m x hx r h
          rw [he] at hp
          rcases List.mem_cons.1 hp with e | hp
          · exact ⟨b :: y, List.mem_cons_self .., by rw [← e]; exact List.mem_cons_of_mem _ hxp⟩
          · exact ⟨p, List.mem_cons_of_mem _ hp, hxp⟩
/-- Texts with a byte that no number has are no lists of numbers. -/
theorem rn_bad {t : ByteArray} {x : UInt8} (h1 : x ≠ 44) (h2 : ∀ d, d < 16 → digH d ≠ x) (h3 : x ∉ [110, 111, 110, 101]) (h : x ∈ t.data.toList) : rn 256 t = none := by
  unfold rn
  rw [if_neg fun e => h3 (by rw [e] at h; exact h)]
  split
  · rfl
  · obtain ⟨p, hp, hx⟩ := cutL_mem 44 x h1 _ h
    have hm : mkB p ∈ cutB 44 t := List.mem_map.2 ⟨p, hp, rfl⟩
    obtain ⟨l, r, e⟩ := List.append_of_mem hm
    rw [e]
    refine allR_bad (rb_none fun n hn => ?_)
    have e2 : p = digs 8 n := by
      have := congrArg (fun b : ByteArray => b.data.toList) hn.2.2
      exact this
    rw [e2] at hx
    obtain ⟨d, hd, hc⟩ := digs_mem 8 n x hx
    exact h2 d hd hc.symm
theorem rn_empty : rn 256 ⟨#[]⟩ = none := by
  unfold rn
  have h0 : ¬ (⟨#[]⟩ : ByteArray) = noneT := fun e => by have := congrArg ByteArray.size e; cases this
  rw [if_neg h0]
  have e : cutB 44 ⟨#[]⟩ = [⟨#[]⟩] := rfl
  rw [e, if_neg (by decide)]
  exact allR_bad (l := []) (rb_none fun n hn => by have := congrArg ByteArray.size hn.2.2; rw [hexT_size] at this; cases this)
/-- The text cut at the mark, and what lies around the first one. -/
theorem cut_two (m : UInt8) (t : ByteArray) : (m ∉ t.data.toList ∧ cutB m t = [t] ∧ aft m t = ⟨#[]⟩ ∧ bef m t = t) ∨
    (m ∈ (aft m t).data.toList ∧ 2 < (cutB m t).length) ∨ cutB m t = [bef m t, aft m t] := by
  have hix : Lib.index t.data.toList [m] = Lib.indexByte t.data.toList m := Lib.index_one _ m
  have hge := Lib.indexByte_ge t.data.toList m
  by_cases h : Lib.indexByte t.data.toList m = -1
  · have h3 := Lib.indexByte_none h
    have hm : m ∉ t.data.toList := fun hm => by
      obtain ⟨k, hk, e⟩ := List.mem_iff_getElem.1 hm
      exact h3 k (by rw [List.getElem?_eq_getElem hk, e])
    refine .inl ⟨hm, ?_, ?_, ?_⟩
    · unfold cutB
      rw [cutL_miss hm]
      simp [mkB_data]
    · unfold aft Lib.cut
      rw [if_neg (by rw [hix]; omega)]
    · unfold bef Lib.cut
      rw [if_neg (by rw [hix]; omega)]
  · obtain ⟨i, hi⟩ : ∃ i : Nat, Lib.indexByte t.data.toList m = i := ⟨(Lib.indexByte t.data.toList m).toNat, by omega⟩
    obtain ⟨h1, h2⟩ := Lib.indexByte_some hi
    have e := split_at h1
    have e2 : (Lib.index t.data.toList [m]).toNat = i := by omega
    have hb : bef m t = mkB (t.data.toList.take i) := by
      unfold bef Lib.cut
      rw [if_pos (by rw [hix]; omega), e2]
      rfl
    have ha : aft m t = mkB (t.data.toList.drop (i + 1)) := by
      unfold aft Lib.cut
      rw [if_pos (by rw [hix]; omega), e2]
      rfl
    have hcut : cutL m t.data.toList = t.data.toList.take i :: cutL m (t.data.toList.drop (i + 1)) := by
      conv => lhs; rw [e]
      rw [cutL_hit _ (not_mem_take h2)]
    by_cases hr : m ∈ t.data.toList.drop (i + 1)
    · refine .inr (.inl ⟨by rw [ha, mkB_list]; exact hr, ?_⟩)
      unfold cutB
      rw [List.length_map, hcut, List.length_cons]
      obtain ⟨l, r, e3⟩ := List.append_of_mem hr
      obtain ⟨k1, k2⟩ := splitK_cut m _ (t.data.toList.drop (i + 1)) (Nat.le_refl _)
      have : 1 ≤ Lib.count (t.data.toList.drop (i + 1)) [m] := by
        rcases Nat.eq_zero_or_pos (Lib.count (t.data.toList.drop (i + 1)) [m]) with h0 | h0
        · exfalso
          rw [h0] at k1
          have k3 : cutL m (t.data.toList.drop (i + 1)) = [t.data.toList.drop (i + 1)] := k1.symm
          have hix2 := Lib.index_one (t.data.toList.drop (i + 1)) m
          have hge2 := Lib.indexByte_ge (t.data.toList.drop (i + 1)) m
          by_cases h5 : Lib.indexByte (t.data.toList.drop (i + 1)) m = -1
          · obtain ⟨k, hk, e6⟩ := List.mem_iff_getElem.1 hr
            exact Lib.indexByte_none h5 k (by rw [List.getElem?_eq_getElem hk, e6])
          · obtain ⟨o, ho⟩ : ∃ o : Nat, Lib.indexByte (t.data.toList.drop (i + 1)) m = o := ⟨(Lib.indexByte (t.data.toList.drop (i + 1)) m).toNat, by omega⟩
            have := Lib.count_hit (s := t.data.toList.drop (i + 1)) (sub := [m]) (by simp) (by rw [hix2]; exact ho)
            omega
        · exact h0
      omega
    · refine .inr (.inr ?_)
      unfold cutB
      rw [hcut, cutL_miss hr, hb, ha]
      rfl
end Go.Proofs.YtjbaebgdebcipaaGreatDoor
