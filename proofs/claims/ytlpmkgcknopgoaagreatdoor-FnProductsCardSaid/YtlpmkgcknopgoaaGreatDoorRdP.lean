/- Plain: the numbers that a text tells: eight digits to the base 16, parts between commas. -/
import Derived.Test.YtlpmkgcknopgoaaGreatDoorStrB
import Derived.Test.YtlpmkgcknopgoaaGreatDoorCut
namespace Go.Proofs.YtlpmkgcknopgoaaGreatDoor
open Go

theorem digH_val (d : Nat) (h : d < 16) : (digH d).toNat = if d < 10 then 48 + d else 87 + d := by
  have : ∀ d : Fin 16, (digH d.1).toNat = if d.1 < 10 then 48 + d.1 else 87 + d.1 := by decide
  exact this ⟨d, h⟩
theorem digH_inj {d e : Nat} (h : d < 16) (h' : e < 16) (he : digH d = digH e) : d = e := by
  have h1 := digH_val d h
  have h2 := digH_val e h'
  rw [he] at h1
  rw [h1] at h2
  split at h2 <;> split at h2 <;> omega
theorem digs_inj : ∀ (k n m : Nat), n < 16 ^ k → m < 16 ^ k → digs k n = digs k m → n = m
  | 0, n, m, hn, hm, _ => by simp at hn hm; omega
  | k + 1, n, m, hn, hm, h => by
    rw [digs, digs] at h
    have h1 := List.append_inj' h rfl
    have h2 := digs_inj k (n / 16) (m / 16) (by rw [Nat.pow_succ] at hn; omega) (by rw [Nat.pow_succ] at hm; omega) h1.1
    have h3 := digH_inj (Nat.mod_lt n (by decide)) (Nat.mod_lt m (by decide)) (by simpa using h1.2)
    omega
theorem toList_hexT (x : Nat) : (hexT x).data.toList = digs 8 x := rfl
theorem hexT_inj {n m : Nat} (hn : n < 4294967296) (hm : m < 4294967296) (h : hexT n = hexT m) : n = m := by
  have e : (hexT n).data.toList = (hexT m).data.toList := by rw [h]
  exact digs_inj 8 n m hn hm e
/-- The text's first k bytes are the digits of n. -/
theorem digs_step (k n d : Nat) (hd : d < 16) : digs (k + 1) (16 * n + d) = digs k n ++ [digH d] := by
  rw [digs, show (16 * n + d) / 16 = n by omega, show (16 * n + d) % 16 = d by omega]
theorem digs_at (k n j : Nat) (h : j < k) : (digs k n)[j]? = some (digH (n / 16 ^ (k - 1 - j) % 16)) := by
  induction k generalizing n with
  | zero => omega
  | succ k ih =>
    rw [digs]
    by_cases hj : j < k
    · rw [List.getElem?_append_left (by rw [digs_length]; exact hj), ih _ hj, Nat.div_div_eq_div_mul, show k + 1 - 1 - j = k - 1 - j + 1 by omega, Nat.pow_succ, Nat.mul_comm]
    · obtain rfl : j = k := by omega
      rw [List.getElem?_append_right (by rw [digs_length]; exact Nat.le_refl _), digs_length, Nat.sub_self, show j + 1 - 1 - j = 0 by omega, Nat.pow_zero, Nat.div_one]
      rfl
theorem hexT_at (x k : Nat) (h : k < (hexT x).size) : (hexT x)[k] = digH (x / 16 ^ (7 - k) % 16) := by
  have h8 : k < 8 := by have := hexT_size x; omega
  have e := digs_at 8 x k h8
  rw [List.getElem?_eq_getElem (by rw [digs_length]; exact h8)] at e
  exact Option.some.inj e
/-- The text tells the number n. -/
def IsH (t : ByteArray) (n : Nat) : Prop := n < 4294967296 ∧ can .f32 n = n ∧ t = hexT n
theorem IsH.uniq {t : ByteArray} {n m : Nat} (h : IsH t n) (h' : IsH t m) : n = m := hexT_inj h.1 h'.1 (h.2.2.symm.trans h'.2.2)
open Classical in
noncomputable def rb (t : ByteArray) : Option Nat := if h : ∃ n, IsH t n then some (Classical.choose h) else none
theorem rb_some {t : ByteArray} {n : Nat} (h : IsH t n) : rb t = some n := by
  unfold rb
  have hx : ∃ n, IsH t n := ⟨n, h⟩
  rw [dif_pos hx]
  exact congrArg some ((Classical.choose_spec hx).uniq h)
theorem rb_none {t : ByteArray} (h : ∀ n, ¬ IsH t n) : rb t = none := by
  unfold rb
  rw [dif_neg fun ⟨n, hn⟩ => h n hn]
theorem rb_is {t : ByteArray} {n : Nat} (h : rb t = some n) : IsH t n := by
  unfold rb at h
  split at h
  · rename_i hx
    cases h
    exact Classical.choose_spec hx
  · cases h
theorem IsH.cls {t : ByteArray} {n : Nat} (h : IsH t n) : FV .f32 n n := ⟨by rw [width32]; exact h.1, h.2.1⟩
theorem rb_cls {t : ByteArray} {n : Nat} (h : rb t = some n) : FV .f32 n n := (rb_is h).cls
/-- All of a list, if each is there. -/
noncomputable def allR : List ByteArray → Option (List Nat)
  | [] => some []
  | t :: r => match rb t with
    | none => none
    | some n => match allR r with
      | none => none
      | some L => some (n :: L)
theorem allR_snoc (l : List ByteArray) (t : ByteArray) : allR (l ++ [t]) = match allR l with
    | none => none
    | some L => match rb t with
      | none => none
      | some n => some (L ++ [n]) := by
  induction l with
  | nil =>
    simp only [List.nil_append, allR]
  | cons a r ih =>
    simp only [List.cons_append, allR, ih]
    rcases rb a with _ | n
    · rfl
    · rcases allR r with _ | L
      · rfl
      · rcases rb t with _ | m <;> rfl
theorem allR_bad {l r : List ByteArray} {t : ByteArray} (h : rb t = none) : allR (l ++ t :: r) = none := by
  induction l with
  | nil => simp only [List.nil_append, allR, h]
  | cons a l ih =>
    simp only [List.cons_append, allR, ih]
    cases rb a with
    | none => rfl
    | some n => rfl
theorem allR_length {l : List ByteArray} {L : List Nat} (h : allR l = some L) : L.length = l.length := by
  induction l generalizing L with
  | nil => cases h; rfl
  | cons a r ih =>
    simp only [allR] at h
    cases ha : rb a with
    | none => rw [ha] at h; cases h
    | some n =>
      rw [ha] at h
      cases hr : allR r with
      | none => rw [hr] at h; cases h
      | some M => rw [hr] at h; cases h; simp [ih hr]
def noneT : ByteArray := ⟨#[110, 111, 110, 101]⟩
/-- The numbers with a text, at most 8192. -/
noncomputable def rn (most : Nat) (t : ByteArray) : Option (List Nat) :=
  if t = noneT then some [] else if most < (cutB 44 t).length then none else allR (cutB 44 t)
theorem rn_few {most : Nat} {t : ByteArray} {L : List Nat} (h : rn most t = some L) : L.length ≤ most := by
  unfold rn at h
  split at h
  · cases h; exact Nat.zero_le _
  · split at h
    · cases h
    · rw [allR_length h]; omega
end Go.Proofs.YtlpmkgcknopgoaaGreatDoor
