/- Floats made wider, whole numbers made floats, and comparisons, by classes. -/
import Derived.Test.YthacadbdncfocaaFl
namespace Go.Proofs.Ythacadbdncfocaa
open Go

theorem order_self {k : FloatKind} {x : Nat} (h : isN k x = false) : k.format.order x x = some .eq := by
  unfold isN FloatKind.decode at h
  unfold Ieee.Format.order
  cases hd : k.format.read x with
  | number s m e => simp [Ieee.Datum.order, Std.ReflCmp.compare_self]
  | infinity s => simp [Ieee.Datum.order, Std.ReflCmp.compare_self]
  | nan s t => rw [hd] at h; simp [Ieee.Datum.isNaN] at h
theorem order_self_nan {k : FloatKind} {x : Nat} (h : isN k x = true) : k.format.order x x = none := order_nan _ _ _ (.inl h)

/-- What a conversion from 32 to 64 bits gives. -/
def cres (b : Nat) (w : World) : Nat := if isN .f32 b then nanOf .f64 (w.tape w.drawn (.nanConv .f64 b)) else FloatKind.f64.encode (FloatKind.f32.decode b)
def ccnt (b : Nat) : Nat := if isN .f32 b then 1 else 0
def cwide (x : Nat) : Nat := if isN .f32 x then nanC .f64 else FloatKind.f64.encode (FloatKind.f32.decode x)
theorem cut_le (way : Ieee.Toward) (neg : Bool) (n drop : Nat) : way.cut neg n drop ≤ n + 1 := by
  unfold Ieee.Toward.cut
  have h1 : n / (1 <<< min drop (n.log2 + 2)) ≤ n := Nat.div_le_self _ _
  have h2 : ∀ b : Bool, b.toNat ≤ 1 := fun b => by cases b <;> decide
  exact Nat.add_le_add h1 (h2 _)
theorem read_bounds32 (b : Nat) {s : Bool} {m : Nat} {e : Int} (h : Ieee.single.read b = .number s m e) : m < 16777216 ∧ e ≤ 104 ∧ -149 ≤ e := by
  have e1 : Ieee.single.signWeight = 2147483648 := by decide
  have e2 : Ieee.single.binade = 8388608 := by decide
  have e3 : Ieee.single.infRung = 2139095040 := by decide
  have e4 : Ieee.single.leastPlace = -149 := by decide
  unfold Ieee.Format.read at h
  rw [e1, e2, e3, e4] at h
  dsimp only at h
  split at h
  · cases h; omega
  · split at h
    · cases h; omega
    · split at h <;> cases h
theorem lt_pow_log2 (m : Nat) : m < 2 ^ (m.log2 + 1) := Nat.lt_log2_self
theorem wide_not_inf (neg : Bool) (m : Nat) (e : Int) (hm : m < 16777216) (he : e ≤ 104) : (FloatKind.f64.decode (FloatKind.f64.encode (.number neg m e))).isInfinity = false := by
  have e1 : Ieee.double.signWeight = 9223372036854775808 := by decide
  have e2 : Ieee.double.binade = 4503599627370496 := by decide
  have e3 : Ieee.double.infRung = 9218868437227405312 := by decide +kernel
  have e4 : Ieee.double.leastPlace = -1074 := by decide +kernel
  have e5 : Ieee.double.fractionBits = 52 := rfl
  show (Ieee.double.read (Ieee.double.nearest neg m e)).isInfinity = false
  have key : ∀ rung, rung < 9218868437227405312 → (Ieee.double.read (Ieee.double.word neg rung)).isInfinity = false := by
    intro rung hr
    have hmod : Ieee.double.word neg rung % Ieee.double.signWeight = rung := by
      unfold Ieee.Format.word
      rw [e1]
      split <;> omega
    unfold Ieee.Format.read
    rw [hmod]
    dsimp only
    rw [e2, e3]
    split
    · rfl
    · first | rfl | (rw [if_pos hr]; rfl)
  unfold Ieee.Format.nearest
  dsimp only
  split
  · exact key 0 (by omega)
  · rename_i hm0
    apply key
    rw [e2, e3, e4, e5]
    have hl : m.log2 < 24 := (Nat.log2_lt hm0).2 hm
    refine Nat.lt_of_le_of_lt (Nat.min_le_left _ _) ?_
    generalize hlast : max (e + (m.log2 : Int) - 52) (-1074) = last
    have hlast1 : last ≤ 75 := by omega
    have hlast2 : e + (m.log2 : Int) - 52 ≤ last := by omega
    have hkept : Ieee.Toward.even.cut neg (m <<< (e - last).toNat) (last - e).toNat ≤ 9007199254740992 := by
      refine Nat.le_trans (cut_le _ _ _ _) ?_
      rw [Nat.shiftLeft_eq]
      have hk : (e - last).toNat ≤ 52 - m.log2 := by omega
      have h1 : m * 2 ^ (e - last).toNat ≤ m * 2 ^ (52 - m.log2) := Nat.mul_le_mul_left _ (Nat.pow_le_pow_right (by decide) hk)
      have h2 : m * 2 ^ (52 - m.log2) < 2 ^ (m.log2 + 1) * 2 ^ (52 - m.log2) := Nat.mul_lt_mul_of_pos_right (lt_pow_log2 m) (Nat.two_pow_pos _)
      rw [← Nat.pow_add, show m.log2 + 1 + (52 - m.log2) = 53 by omega] at h2
      omega
    have h3 : (last - -1074).toNat ≤ 1149 := by omega
    have h4 : (last - -1074).toNat * 4503599627370496 ≤ 1149 * 4503599627370496 := Nat.mul_le_mul_right _ h3
    omega
theorem run_widen {P : Program} (src dst : TypeId) (hs : (P.underlying src).isSome = true) (hd : P.underlying dst = some (.float .f64)) (w : World) (b : Nat) :
    (convert src dst (.float .f32 b)).run P w = .ok (.float .f64 (cres b w)) (w.drewN (ccnt b)) := by
  obtain ⟨u, hs'⟩ := Option.isSome_iff_exists.1 hs
  have hconv : (Conv.floatToFloat .f32 b .f64).run P w = .ok (.float .f64 (cres b w)) (w.drewN (ccnt b)) := by
    unfold cres ccnt isN Conv.floatToFloat
    rw [if_neg (by decide)]
    cases hb : FloatKind.f32.decode b with
    | nan s t => simp [Ieee.Datum.isNaN, choose, Sem.run, Question.forced, cut_nanConv]; rfl
    | infinity s => simp [Ieee.Datum.isNaN]; rfl
    | number s m e =>
      have hbd := read_bounds32 b hb
      have hi := wide_not_inf s m e hbd.1 hbd.2.1
      simp [Ieee.Datum.isNaN, hi]; rfl
  cases u <;> simp [convert, run_underlying hs', run_underlying hd, hconv]
theorem FV.wide {b x : Nat} (h : FV .f32 b x) (w : World) : FV .f64 (cres b w) (cwide x) := by
  unfold cres cwide
  rw [h.isN]
  cases hn : Proofs.Ythacadbdncfocaa.isN .f32 x with
  | true => simp only [if_true]; exact nanOf_fv _ _
  | false =>
    simp only [Bool.false_eq_true, if_false]
    rw [h.eq_of_not hn]
    refine ⟨Ieee.double.write_lt _, can_of_not ?_⟩
    exact write_not_nan Ieee.double _ hn
theorem floatOfInt_fv (k : FloatKind) (n : Int) : FV k (floatOfInt k n) (floatOfInt k n) := ⟨k.format.nearest_lt _ _ _, can_of_not (nearest_not_nan k.format _ _ _)⟩
theorem floatOfInt_not_nan (k : FloatKind) (n : Int) : isN k (floatOfInt k n) = false := nearest_not_nan k.format _ _ _
theorem product_comm (a b : Ieee.Datum) : Ieee.Datum.product a b = Ieee.Datum.product b a := by
  cases a <;> cases b <;> simp [Ieee.Datum.product, Bool.xor_comm, Nat.mul_comm, Int.add_comm]
theorem fop_mul_comm (k : FloatKind) (x y : Nat) : fop .mul k x y = fop .mul k y x := by
  unfold fop floatBits Ieee.Format.mul
  rw [product_comm]
/-- The number is finite. -/
def fin (k : FloatKind) (x : Nat) : Bool := match k.decode x with
  | .number .. => true
  | _ => false
def zeroD (k : FloatKind) : Ieee.Datum := k.format.read 0
theorem sum_opposite (s : Bool) (m : Nat) (e : Int) : Ieee.Datum.sum (.number s m e) (Ieee.Datum.opposite (.number s m e)) = some (.number false 0 e) := by
  cases s <;> simp [Ieee.Datum.sum, Ieee.Datum.opposite, Ieee.signed] <;> omega
theorem write_zero (f : Ieee.Format) (e : Int) : f.write (.number false 0 e) = 0 := by
  simp [Ieee.Format.write, Ieee.Format.nearest, Ieee.Format.word]
/-- What is taken from itself is zero just if it is finite. -/
theorem self_less (k : FloatKind) (x : Nat) : (k.format.order (fop .sub k x x) 0 == some Ordering.eq) = fin k x := by
  have h0 : k.format.order 0 0 = some .eq := order_self (by cases k <;> decide +kernel)
  have hn : k.format.order (nanC k) 0 = none := order_nan _ _ _ (.inl (isN_nanC k))
  unfold fop floatBits fin FloatKind.decode
  simp only [Ieee.Format.sub]
  cases hd : k.format.read x with
  | number s m e => rw [sum_opposite]; simp only [Option.map_some, Option.getD_some, write_zero, h0]; rfl
  | infinity s => cases s <;> simp [Ieee.Datum.sum, Ieee.Datum.opposite, hn]
  | nan s t => simp [Ieee.Datum.sum, Ieee.Datum.opposite, hn]
theorem decode_encode_number (neg : Bool) (m : Nat) (e : Int) (hm : m < 16777216) (he : e ≤ 104) : fin .f64 (FloatKind.f64.encode (.number neg m e)) = true := by
  have h1 := wide_not_inf neg m e hm he
  have h2 := write_not_nan Ieee.double (.number neg m e) rfl
  unfold fin
  cases hd : FloatKind.f64.decode (FloatKind.f64.encode (.number neg m e)) with
  | number => rfl
  | infinity s => rw [hd] at h1; simp [Ieee.Datum.isInfinity] at h1
  | nan s t =>
    have h3 : (FloatKind.f64.decode (FloatKind.f64.encode (.number neg m e))).isNaN = false := h2
    rw [hd] at h3; simp [Ieee.Datum.isNaN] at h3
theorem inf64 (s : Bool) : fin .f64 (FloatKind.f64.encode (.infinity s)) = false := by cases s <;> decide +kernel
theorem nanC64 : fin .f64 (nanC .f64) = false := by decide +kernel
theorem fin_wide (x : Nat) : fin .f64 (cwide x) = fin .f32 x := by
  unfold cwide
  cases hd : FloatKind.f32.decode x with
  | number s m e =>
    have hb := read_bounds32 x hd
    rw [if_neg (by unfold isN; rw [hd]; simp [Ieee.Datum.isNaN]), decode_encode_number s m e hb.1 hb.2.1]
    unfold fin; rw [hd]
  | infinity s =>
    rw [if_neg (by unfold isN; rw [hd]; simp [Ieee.Datum.isNaN]), inf64]
    unfold fin; rw [hd]
  | nan s t =>
    rw [if_pos (by unfold isN; rw [hd]; rfl), nanC64]
    unfold fin; rw [hd]
end Go.Proofs.Ythacadbdncfocaa
