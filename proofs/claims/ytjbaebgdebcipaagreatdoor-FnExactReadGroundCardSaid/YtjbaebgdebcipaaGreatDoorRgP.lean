/- Plain: the ground that a text tells. -/
import Derived.Test.YtjbaebgdebcipaaGreatDoorNr
import Derived.Test.YtjbaebgdebcipaaGreatDoorRsP
import Derived.Test.YtjbaebgdebcipaaGreatDoorW28
namespace Go.Proofs.YtjbaebgdebcipaaGreatDoor
open Go

/-- Lists of four numbers each, one after another. -/
noncomputable def allL : List ByteArray → Option (List Nat)
  | [] => some []
  | t :: r => match rx 4 t with
    | none => none
    | some L => match allL r with
      | none => none
      | some M => some (L ++ M)
theorem rx_length {n : Nat} {t : ByteArray} {L : List Nat} (h : rx n t = some L) : L.length = n := by
  unfold rx at h
  split at h
  · cases h
  · split at h
    · rename_i hl
      cases h
      exact hl
    · cases h
theorem allL_snoc (l : List ByteArray) (t : ByteArray) : allL (l ++ [t]) = match allL l with
    | none => none
    | some M => match rx 4 t with
      | none => none
      | some L => some (M ++ L) := by
  induction l with
  | nil =>
    simp only [List.nil_append, allL]
    cases rx 4 t <;> simp
  | cons a l ih =>
    simp only [List.cons_append, allL, ih]
    cases rx 4 a with
    | none => rfl
    | some L =>
      cases allL l with
      | none => rfl
      | some M =>
        cases rx 4 t with
        | none => rfl
        | some K => simp
theorem allL_bad {l r : List ByteArray} {t : ByteArray} (h : rx 4 t = none) : allL (l ++ t :: r) = none := by
  induction l with
  | nil => simp only [List.nil_append, allL, h]
  | cons a l ih =>
    simp only [List.cons_append, allL, ih]
    cases rx 4 a <;> rfl
theorem allL_length {l : List ByteArray} : ∀ {L : List Nat}, allL l = some L → L.length = 4 * l.length := by
  induction l with
  | nil => intro L h; cases h; rfl
  | cons a l ih =>
    intro L h
    simp only [allL] at h
    cases h1 : rx 4 a with
    | none => rw [h1] at h; cases h
    | some K =>
      rw [h1] at h
      cases h2 : allL l with
      | none => rw [h2] at h; cases h
      | some M =>
        rw [h2] at h
        cases h
        have := rx_length h1
        have := ih h2
        simp only [List.length_append, List.length_cons]
        omega
noncomputable def rg (t : ByteArray) : Option GM := match rx 2 (aft 59 t) with
  | none => none
  | some D => match allL (cutB 47 (bef 59 t)) with
    | none => none
    | some L => if validG ⟨(cutB 47 (bef 59 t)).length, L, D.getD 0 0, D.getD 1 0⟩ = true then some ⟨(cutB 47 (bef 59 t)).length, L, D.getD 0 0, D.getD 1 0⟩ else none
theorem rg_D {t : ByteArray} (h : rx 2 (aft 59 t) = none) : rg t = none := by unfold rg; simp only [h]
theorem rg_L {t : ByteArray} (h : allL (cutB 47 (bef 59 t)) = none) : rg t = none := by
  unfold rg
  cases rx 2 (aft 59 t) with
  | none => rfl
  | some D => simp only [h]
theorem rg_yes {t : ByteArray} {D L : List Nat} (h : rx 2 (aft 59 t) = some D) (h1 : allL (cutB 47 (bef 59 t)) = some L) : rg t = if validG ⟨(cutB 47 (bef 59 t)).length, L, D.getD 0 0, D.getD 1 0⟩ = true then some ⟨(cutB 47 (bef 59 t)).length, L, D.getD 0 0, D.getD 1 0⟩ else none := by
  unfold rg
  simp only [h, h1]
theorem rx_none {n : Nat} {t : ByteArray} (h : rn 256 t = none) : rx n t = none := by unfold rx; simp only [h]
theorem rg_cut {t : ByteArray} (h : ¬ (cutB 59 t).length = 2) : rg t = none := by
  rcases cut_two 59 t with ⟨-, -, ha, -⟩ | ⟨hm, -⟩ | hc
  · exact rg_D (rx_none (by rw [ha]; exact rn_empty))
  · exact rg_D (rx_none (rn_bad (by decide) (fun d hd e => (digH_bytes d hd).2.1 e) (by decide) hm))
  · exact absurd (by rw [hc]; rfl) h
end Go.Proofs.YtjbaebgdebcipaaGreatDoor
