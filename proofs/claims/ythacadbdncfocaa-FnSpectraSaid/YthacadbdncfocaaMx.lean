/- The builtin max of floats that are no NaNs; the opposite of a float. -/
import Derived.Test.YthacadbdncfocaaQv
namespace Go.Proofs.Ythacadbdncfocaa
open Go Ieee

def mx2 (k : FloatKind) (x y : Nat) : Nat := match k.format.order x y with
  | some .lt => y
  | some .gt => x
  | _ => if (k.decode x).neg then y else x
theorem run_mx2 {P : Program} (k : FloatKind) (x y : Nat) (w : World) (h : (k.format.order x y).isSome = true) : (Builtin.max2 (.float k x) (.float k y)).run P w = .ok (.float k (mx2 k x y)) w := by
  unfold Builtin.max2 mx2
  cases ho : k.format.order x y with
  | none => rw [ho] at h; cases h
  | some o => cases o <;> simp only [ho] <;> rfl
theorem run_max2 {P : Program} (k : FloatKind) (ats : Array TypeId) (ty : TypeId) (x y : Nat) (w : World) (h : (k.format.order x y).isSome = true) : (Builtin.max_ ats ty #[.float k x, .float k y]).run P w = .ok (.float k (mx2 k x y)) w := by
  have e : Builtin.max_ ats ty #[.float k x, .float k y] = Builtin.max2 (.float k x) (.float k y) := by simp [Builtin.max_]
  rw [e, run_mx2 k x y w h]
theorem run_max3 {P : Program} (k : FloatKind) (ats : Array TypeId) (ty : TypeId) (x y z : Nat) (w : World) (h : (k.format.order x y).isSome = true) (h2 : (k.format.order (mx2 k x y) z).isSome = true) : (Builtin.max_ ats ty #[.float k x, .float k y, .float k z]).run P w = .ok (.float k (mx2 k (mx2 k x y) z)) w := by
  have e : Builtin.max_ ats ty #[.float k x, .float k y, .float k z] = (do let r ← Builtin.max2 (.float k x) (.float k y); Builtin.max2 r (.float k z)) := by simp [Builtin.max_]
  rw [e, Sem.run_bind, run_mx2 k x y w h]
  exact run_mx2 k _ z w h2
def rmax (a b : Rat) : Rat := if a < b then b else a
theorem RQ.order_some {k : FloatKind} {x y : Nat} {a b : Rat} (hx : RQ k x a) (hy : RQ k y b) : (k.format.order x y).isSome = true := by rw [hx.order hy]; rfl
theorem RQ.mx2 {k : FloatKind} {x y : Nat} {a b : Rat} (hx : RQ k x a) (hy : RQ k y b) : RQ k (mx2 k x y) (rmax a b) := by
  unfold Proofs.Ythacadbdncfocaa.mx2 rmax
  rw [hx.order hy]
  by_cases h1 : a < b
  · rw [if_pos h1, if_pos h1]; exact hy
  · rw [if_neg h1, if_neg h1]
    by_cases h2 : a = b
    · subst h2
      rw [if_pos rfl]
      show RQ k (if (k.decode x).neg then y else x) a
      split
      · exact hy
      · exact hx
    · rw [if_neg h2]; exact hx
/-- The opposite. -/
def ngF (k : FloatKind) (x : Nat) : Nat := x ^^^ (match k with | .f32 => 2 ^ 31 | .f64 => 2 ^ 63)
theorem run_ngF {P : Program} (k : FloatKind) (w : World) (x : Nat) : (Op.unary .neg (.float k x)).run P w = .ok (.float k (ngF k x)) w := by cases k <;> rfl
theorem xor_top (x n : Nat) (hx : x < 2 ^ (n + 1)) : x ^^^ 2 ^ n = if x < 2 ^ n then x + 2 ^ n else x - 2 ^ n := by
  split
  · next h =>
    apply Nat.eq_of_testBit_eq
    intro i
    rw [Nat.testBit_xor, Nat.testBit_two_pow]
    by_cases hi : i = n
    · subst hi
      rw [Nat.testBit_lt_two_pow h, Nat.add_comm, Nat.testBit_two_pow_add_eq, Nat.testBit_lt_two_pow h]
      simp
    · by_cases hl : i < n
      · rw [Nat.add_comm, Nat.testBit_two_pow_add_gt hl]
        simp [Ne.symm hi]
      · have h1 : x.testBit i = false := Nat.testBit_lt_two_pow (Nat.lt_of_lt_of_le h (Nat.pow_le_pow_right (by decide) (by omega)))
        have h2 : (x + 2 ^ n).testBit i = false := Nat.testBit_lt_two_pow (Nat.lt_of_lt_of_le (show x + 2 ^ n < 2 ^ (n + 1) by rw [Nat.pow_succ]; omega) (Nat.pow_le_pow_right (by decide) (by omega)))
        rw [h1, h2]
        simp [Ne.symm hi]
  · next h =>
    obtain ⟨y, rfl⟩ : ∃ y, x = 2 ^ n + y := ⟨x - 2 ^ n, by omega⟩
    have hy : y < 2 ^ n := by rw [Nat.pow_succ] at hx; omega
    rw [Nat.add_sub_cancel_left]
    apply Nat.eq_of_testBit_eq
    intro i
    rw [Nat.testBit_xor, Nat.testBit_two_pow]
    by_cases hi : i = n
    · subst hi
      rw [Nat.testBit_two_pow_add_eq, Nat.testBit_lt_two_pow hy]
      simp
    · by_cases hl : i < n
      · rw [Nat.testBit_two_pow_add_gt hl]
        simp [Ne.symm hi]
      · have h1 : y.testBit i = false := Nat.testBit_lt_two_pow (Nat.lt_of_lt_of_le hy (Nat.pow_le_pow_right (by decide) (by omega)))
        have h2 : (2 ^ n + y).testBit i = false := Nat.testBit_lt_two_pow (Nat.lt_of_lt_of_le hx (Nat.pow_le_pow_right (by decide) (by omega)))
        rw [h1, h2]
        simp [Ne.symm hi]
theorem RQ.lt {k : FloatKind} {x : Nat} {q : Rat} (h : RQ k x q) : x < 2 ^ k.format.width → x < 2 ^ k.format.width := id
/-- The value of the opposite. -/
theorem RQ.neg {k : FloatKind} {x : Nat} {q : Rat} (hx : RQ k x q) (hw : x < 2 ^ k.format.width) : RQ k (ngF k x) (-q) := by
  obtain ⟨s, m, e, h1, rfl⟩ := hx
  refine ⟨!s, m, e, ?_, by rw [sgr_not]; grind⟩
  have key : ∀ (f : Format) (n : Nat), f.signWeight = 2 ^ n → x < 2 ^ (n + 1) → f.read x = .number s m e → f.read (x ^^^ 2 ^ n) = .number (!s) m e := by
    intro f n hn hx hr
    rw [xor_top x n hx]
    unfold Format.read at hr ⊢
    rw [hn] at hr ⊢
    have hp : 0 < 2 ^ n := Nat.two_pow_pos _
    split
    · next h =>
      have e1 : x / 2 ^ n % 2 = 0 := by rw [Nat.div_eq_of_lt h]
      have e2 : (x + 2 ^ n) / 2 ^ n % 2 = 1 := by rw [Nat.add_div_right _ hp, Nat.div_eq_of_lt h]
      have e3 : (x + 2 ^ n) % 2 ^ n = x % 2 ^ n := Nat.add_mod_right _ _
      rw [e1] at hr
      rw [e2, e3]
      dsimp only at hr ⊢
      split at hr
      · next h5 => cases hr; rw [if_pos h5]; rfl
      · next h5 =>
        split at hr
        · next h6 => cases hr; rw [if_neg h5, if_pos h6]; rfl
        · split at hr <;> cases hr
    · next h =>
      obtain ⟨y, rfl⟩ : ∃ y, x = 2 ^ n + y := ⟨x - 2 ^ n, by omega⟩
      have hy : y < 2 ^ n := by rw [Nat.pow_succ] at hx; omega
      rw [Nat.add_sub_cancel_left]
      have e1 : (2 ^ n + y) / 2 ^ n % 2 = 1 := by rw [Nat.add_div_left _ hp, Nat.div_eq_of_lt hy]
      have e2 : y / 2 ^ n % 2 = 0 := by rw [Nat.div_eq_of_lt hy]
      have e3 : (2 ^ n + y) % 2 ^ n = y % 2 ^ n := Nat.add_mod_left _ _
      rw [e1, e3] at hr
      rw [e2]
      dsimp only at hr ⊢
      split at hr
      · next h5 => cases hr; rw [if_pos h5]; rfl
      · next h5 =>
        split at hr
        · next h6 => cases hr; rw [if_neg h5, if_pos h6]; rfl
        · split at hr <;> cases hr
  cases k with
  | f32 => exact key Ieee.single 31 (by decide) (by rw [width32] at hw; exact hw) h1
  | f64 => exact key Ieee.double 63 (by decide) (by rw [width64] at hw; exact hw) h1
end Go.Proofs.Ythacadbdncfocaa
