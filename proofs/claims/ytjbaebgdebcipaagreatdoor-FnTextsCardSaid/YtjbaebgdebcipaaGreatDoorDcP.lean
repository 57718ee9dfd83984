/- Plain: decimal numerals. -/
import Derived.Test.YtjbaebgdebcipaaGreatDoorRdP
import Derived.Lib.ItoaNum
import Derived.Lib.ParseIntB
namespace Go.Proofs.YtjbaebgdebcipaaGreatDoor
open Go

def numStep (M a : Nat) (c : UInt8) : Lib.NumEnd Nat := if 48 ≤ c.toNat ∧ c.toNat ≤ 57 then (if 1844674407370955162 ≤ a then .range else if M < a * 10 + (c.toNat - 48) then .range else .ok (a * 10 + (c.toNat - 48))) else .syntax
theorem pm_snoc (M : Nat) (c : UInt8) : ∀ (l : List UInt8) (acc : Nat), Lib.parseUintM M acc (l ++ [c]) = match Lib.parseUintM M acc l with
    | .ok a => numStep M a c
    | .syntax => .syntax
    | .range => .range
  | [], acc => by
    simp only [List.nil_append, Lib.parseUintM, numStep]
  | b :: r, acc => by
    simp only [List.cons_append, Lib.parseUintM]
    by_cases h : 48 ≤ b.toNat ∧ b.toNat ≤ 57
    · rw [if_pos h, if_pos h]
      by_cases h2 : 1844674407370955162 ≤ acc
      · rw [if_pos h2, if_pos h2]
      · rw [if_neg h2, if_neg h2]
        by_cases h3 : M < acc * 10 + (b.toNat - 48)
        · rw [if_pos h3, if_pos h3]
        · rw [if_neg h3, if_neg h3]
          exact pm_snoc M c r _
    · rw [if_neg h, if_neg h]
theorem dig_nat (d : Nat) (h : d < 10) : (UInt8.ofNat (48 + d)).toNat = 48 + d := UInt8.toNat_ofNat_of_lt' (by show 48 + d < 256; omega)
theorem pm_dec (M : Nat) (n : Nat) (hM : n ≤ M) (hn : n ≤ 1000000000000000000) : Lib.parseUintM M 0 (Lib.decDigits n) = .ok n := by
  induction n using Nat.strongRecOn with
  | ind n ih =>
    rw [Lib.decDigits]
    by_cases h : n < 10
    · rw [dif_pos h]
      simp only [Lib.parseUintM, dig_nat n h]
      rw [if_pos (by omega), if_neg (by decide), if_neg (by omega)]
      congr 1
      omega
    · rw [dif_neg h, pm_snoc, ih (n / 10) (by omega) (by omega) (by omega)]
      simp only [numStep, dig_nat (n % 10) (Nat.mod_lt _ (by decide))]
      rw [if_pos (by omega), if_neg (by omega), if_neg (by omega)]
      congr 1
      omega
/-- All digits of a text, one behind the other. -/
def fv (acc : Nat) : List UInt8 → Nat
  | [] => acc
  | c :: r => if 48 ≤ c.toNat ∧ c.toNat ≤ 57 then fv (10 * acc + (c.toNat - 48)) r else fv acc r
theorem fv_snoc (c : UInt8) : ∀ (l : List UInt8) (acc : Nat), fv acc (l ++ [c]) = if 48 ≤ c.toNat ∧ c.toNat ≤ 57 then 10 * fv acc l + (c.toNat - 48) else fv acc l
  | [], acc => by simp only [List.nil_append, fv]
  | b :: r, acc => by
    simp only [List.cons_append, fv]
    split
    · exact fv_snoc c r _
    · exact fv_snoc c r _
theorem fv_dec (n : Nat) : fv 0 (Lib.decDigits n) = n := by
  induction n using Nat.strongRecOn with
  | ind n ih =>
    rw [Lib.decDigits]
    by_cases h : n < 10
    · rw [dif_pos h]
      simp only [fv, dig_nat n h]
      rw [if_pos (by omega)]
      omega
    · rw [dif_neg h, fv_snoc, ih (n / 10) (by omega)]
      simp only [dig_nat (n % 10) (Nat.mod_lt _ (by decide))]
      rw [if_pos (by omega)]
      omega
theorem fv_le (l : List UInt8) (acc : Nat) : fv acc l < (acc + 1) * 10 ^ l.length := by
  induction l generalizing acc with
  | nil => simp [fv]
  | cons c r ih =>
    simp only [fv, List.length_cons, Nat.pow_succ]
    split
    · have h := ih (10 * acc + (c.toNat - 48))
      have h2 : (10 * acc + (c.toNat - 48) + 1) * 10 ^ r.length ≤ (acc + 1) * 10 * 10 ^ r.length := Nat.mul_le_mul_right _ (by omega)
      calc _ < _ := h
        _ ≤ _ := h2
        _ = _ := by rw [Nat.mul_assoc, Nat.mul_comm 10]
    · have h := ih acc
      have h2 : (acc + 1) * 10 ^ r.length ≤ (acc + 1) * (10 ^ r.length * 10) := Nat.mul_le_mul_left _ (by omega)
      omega
theorem dec_head (n : Nat) : ∃ c r, Lib.decDigits n = c :: r ∧ 48 ≤ c.toNat ∧ c.toNat ≤ 57 := by
  induction n using Nat.strongRecOn with
  | ind n ih =>
    rw [Lib.decDigits]
    by_cases h : n < 10
    · rw [dif_pos h]
      exact ⟨_, [], rfl, by rw [dig_nat n h]; omega, by rw [dig_nat n h]; omega⟩
    · rw [dif_neg h]
      obtain ⟨c, r, e, h1, h2⟩ := ih (n / 10) (by omega)
      exact ⟨c, r ++ [UInt8.ofNat (48 + n % 10)], by rw [e]; rfl, h1, h2⟩
theorem dec_len (k n : Nat) (h : n < 10 ^ (k + 1)) : (Lib.decDigits n).length ≤ k + 1 := by
  induction k generalizing n with
  | zero =>
    rw [Lib.decDigits, dif_pos (by simpa using h)]
    exact Nat.le_refl _
  | succ k ih =>
    rw [Lib.decDigits]
    by_cases h10 : n < 10
    · rw [dif_pos h10]; simp
    · rw [dif_neg h10, List.length_append]
      have := ih (n / 10) (by rw [Nat.pow_succ] at h; omega)
      simp only [List.length_cons, List.length_nil]
      omega
def decT (n : Int) : ByteArray := ⟨(Lib.itoa n).toArray⟩
theorem decT_list (n : Int) : (decT n).data.toList = Lib.itoa n := rfl
theorem parse_itoa (n : Int) (h0 : -1000000000000000 ≤ n) (h1 : n ≤ 1000000000000000) : Lib.parseIntB 64 (Lib.itoa n) = .ok n := by
  have hu : ∀ m : Nat, m ≤ 1000000000000000 → Lib.parseUintB 64 (Lib.decDigits m) = .ok m := fun m hm => by
    obtain ⟨c, r, e, -, -⟩ := dec_head m
    unfold Lib.parseUintB
    rw [if_neg (by rw [e]; simp)]
    exact pm_dec _ m (by omega) (by omega)
  unfold Lib.itoa
  by_cases hn : n < 0
  · rw [if_pos hn]
    simp only [Lib.parseIntB]
    have e45 : (45 : UInt8).toNat = 45 := rfl
    rw [e45, if_pos (.inr rfl), hu n.natAbs (by omega)]
    simp only
    rw [if_neg (by simp), if_neg (by simp; omega), if_pos trivial]
    congr 1
    omega
  · rw [if_neg hn]
    obtain ⟨c, r, e, hc0, hc1⟩ := dec_head n.toNat
    have h2 := hu n.toNat (by omega)
    rw [e] at h2 ⊢
    simp only [Lib.parseIntB]
    rw [if_neg (by omega), h2]
    simp only
    rw [if_neg (by omega), if_neg (by omega), if_neg (by omega)]
    congr 1
    omega
/-- The text tells the integer n. -/
def IsD (t : ByteArray) (n : Int) : Prop := -1000000000000000 ≤ n ∧ n ≤ 1000000000000000 ∧ t = decT n
theorem IsD.parse {t : ByteArray} {n : Int} (h : IsD t n) : Lib.parseIntB 64 t.data.toList = .ok n := by
  obtain ⟨h0, h1, rfl⟩ := h
  exact parse_itoa n h0 h1
theorem IsD.uniq {t : ByteArray} {n m : Int} (h : IsD t n) (h' : IsD t m) : n = m := by
  have a := h.parse
  rw [h'.parse] at a
  cases a
  rfl
/-- The value as the reference reads it. -/
def specV (l : List UInt8) : Int := if l.head? = some 45 then -(fv 0 l : Int) else fv 0 l
theorem IsD.spec {t : ByteArray} {n : Int} (h : IsD t n) : specV t.data.toList = n ∧ 1 ≤ t.size ∧ t.size ≤ 17 := by
  obtain ⟨h0, h1, rfl⟩ := h
  rw [Lib.size_eq, decT_list]
  unfold Lib.itoa specV
  by_cases hn : n < 0
  · rw [if_pos hn]
    have hl := dec_len 15 n.natAbs (by show n.natAbs < 10000000000000000; omega)
    refine ⟨?_, by simp, by simp; omega⟩
    rw [if_pos (show (45 :: Lib.decDigits n.natAbs).head? = some 45 from rfl)]
    have e : fv 0 (45 :: Lib.decDigits n.natAbs) = fv 0 (Lib.decDigits n.natAbs) := by
      simp only [fv]
      rw [if_neg (by decide)]
    rw [e, fv_dec]
    omega
  · rw [if_neg hn]
    obtain ⟨c, r, e, hc0, hc1⟩ := dec_head n.toNat
    have hl := dec_len 15 n.toNat (by show n.toNat < 10000000000000000; omega)
    have hf := fv_dec n.toNat
    refine ⟨?_, by rw [e]; simp, by omega⟩
    rw [hf, e, if_neg]
    · omega
    · intro h
      have : c = 45 := Option.some.inj h
      rw [this] at hc0
      exact absurd hc0 (by decide)
open Classical in
noncomputable def rdD (t : ByteArray) : Option Int := if h : ∃ n, IsD t n then some (Classical.choose h) else none
theorem rdD_some {t : ByteArray} {n : Int} (h : IsD t n) : rdD t = some n := by
  unfold rdD
  have hx : ∃ n, IsD t n := ⟨n, h⟩
  rw [dif_pos hx]
  exact congrArg some ((Classical.choose_spec hx).uniq h)
theorem rdD_none {t : ByteArray} (h : ∀ n, ¬ IsD t n) : rdD t = none := by
  unfold rdD
  rw [dif_neg fun ⟨n, hn⟩ => h n hn]
theorem rdD_is {t : ByteArray} {n : Int} (h : rdD t = some n) : IsD t n := by
  unfold rdD at h
  split at h
  · rename_i hx
    cases h
    exact Classical.choose_spec hx
  · cases h
noncomputable def allD : List ByteArray → Option (List Int)
  | [] => some []
  | t :: r => match rdD t with
    | none => none
    | some n => match allD r with
      | none => none
      | some L => some (n :: L)
theorem allD_snoc (l : List ByteArray) (t : ByteArray) : allD (l ++ [t]) = match allD l with
    | none => none
    | some L => match rdD t with
      | none => none
      | some n => some (L ++ [n]) := by
  induction l with
  | nil =>
    simp only [List.nil_append, allD]
  | cons a r ih =>
    simp only [List.cons_append, allD, ih]
    rcases rdD a with _ | n
    · rfl
    · rcases allD r with _ | L
      · rfl
      · rcases rdD t with _ | m <;> rfl
theorem allD_bad {l r : List ByteArray} {t : ByteArray} (h : rdD t = none) : allD (l ++ t :: r) = none := by
  induction l with
  | nil => simp only [List.nil_append, allD, h]
  | cons a l ih =>
    simp only [List.cons_append, allD, ih]
    cases rdD a with
    | none => rfl
    | some n => rfl
theorem allD_length {l : List ByteArray} {L : List Int} (h : allD l = some L) : L.length = l.length := by
  induction l generalizing L with
  | nil => cases h; rfl
  | cons a r ih =>
    simp only [allD] at h
    cases ha : rdD a with
    | none => rw [ha] at h; cases h
    | some n =>
      rw [ha] at h
      cases hr : allD r with
      | none => rw [hr] at h; cases h
      | some M => rw [hr] at h; cases h; simp [ih hr]
/-- The integers with a text, at most 64. -/
noncomputable def rl (t : ByteArray) : Option (List Int) :=
  if t = noneT then some [] else if 64 < (cutB 44 t).length then none else allD (cutB 44 t)
theorem rl_few {t : ByteArray} {L : List Int} (h : rl t = some L) : L.length ≤ 64 := by
  unfold rl at h
  split at h
  · cases h; exact Nat.zero_le _
  · split at h
    · cases h
    · rw [allD_length h]; omega
end Go.Proofs.YtjbaebgdebcipaaGreatDoor
