/- Walks: the absolute value of a float32. -/
import Derived.Test.YthacadbdncfocaaAbs
import Derived.Test.YthacadbdncfocaaOwn
import Derived.WalkSpells
import Derived.Lib.Hide
import Derived.Laws.BitsAllLaws
namespace Go.Proofs.Ythacadbdncfocaa
open Go Go.RowKit

/-- The number without its sign. -/
def absC (x : Nat) : Nat := if isN .f32 x then nanC .f32 else x % 2147483648
def numB (x : Nat) : Bool := FloatKind.f32.format.order (absC x) 1895825408 == some .lt
theorem fvC : FV .f32 1895825408 1895825408 := ⟨by decide, by decide +kernel⟩
theorem xor_sign {t : Nat} (h : t < 2147483648) : (2147483648 + t) ^^^ 2147483648 = t := by
  have e : (2147483648 : Nat) = 2 ^ 31 := by decide
  rw [e] at h ⊢
  apply Nat.eq_of_testBit_eq
  intro i
  rw [Nat.testBit_xor]
  rcases Nat.lt_trichotomy i 31 with hi | hi | hi
  · rw [Nat.testBit_two_pow_add_gt hi, Nat.testBit_two_pow_of_ne (by omega), Bool.xor_false]
  · subst hi
    rw [Nat.testBit_two_pow_add_eq, Nat.testBit_two_pow_self, Nat.testBit_lt_two_pow h]
    rfl
  · have h32 : (2 ^ 31 + t) < 2 ^ i := Nat.lt_of_lt_of_le (show 2 ^ 31 + t < 2 ^ 32 by omega) (Nat.pow_le_pow_right (by decide) (by omega))
    rw [Nat.testBit_lt_two_pow h32, Nat.testBit_two_pow_of_ne (by omega), Nat.testBit_lt_two_pow (Nat.lt_of_lt_of_le h (Nat.pow_le_pow_right (by decide) (by omega)))]
    rfl
theorem read_zero32 : Ieee.single.read 0 = .number false 0 (-149) := by decide +kernel
theorem sign_read (r : Nat) (hr : r < 4294967296) : (Ieee.single.read r).neg = decide (2147483648 ≤ r) := by
  have e1 : Ieee.single.signWeight = 2147483648 := by decide
  have : (r / 2147483648 % 2 == 1) = decide (2147483648 ≤ r) := by
    rcases (by omega : r < 2147483648 ∨ 2147483648 ≤ r) with h | h
    · have h1 : r / 2147483648 = 0 := by omega
      simp [h1]; omega
    · have h1 : r / 2147483648 = 1 := by omega
      simp [h1]; exact h
  rw [← this]
  unfold Ieee.Format.read
  rw [e1]
  dsimp only
  split
  · rfl
  · split
    · rfl
    · split <;> rfl
/-- What the reference takes for the size. -/
def sizeR (r : Nat) : Nat := if FloatKind.f32.format.order r 0 == some .lt then r ^^^ 2147483648 else r
theorem order_zero (r : Nat) (hr : r < 4294967296) : (FloatKind.f32.format.order r 0 == some Ordering.lt) = (decide (2147483648 < r) && !isN .f32 r) := by
  have hs := sign_read r hr
  show ((Ieee.single.read r).order (Ieee.single.read 0) == some Ordering.lt) = (decide (2147483648 < r) && !(Ieee.single.read r).isNaN)
  rw [read_zero32]
  cases hd : Ieee.single.read r with
  | nan s t => simp [Ieee.Datum.order, Ieee.Datum.isNaN]
  | infinity s =>
    rw [hd] at hs
    have hs : s = decide (2147483648 ≤ r) := hs
    have hne : r ≠ 2147483648 := by rintro rfl; rw [show Ieee.single.read 2147483648 = .number true 0 (-149) by decide +kernel] at hd; cases hd
    cases s
    · have : ¬ 2147483648 ≤ r := by simpa using hs.symm
      simp [Ieee.Datum.order, Ieee.Datum.isNaN]; omega
    · have : 2147483648 ≤ r := by simpa using hs.symm
      simp [Ieee.Datum.order, Ieee.Datum.isNaN]; omega
  | number s m e =>
    rw [hd] at hs
    have hs : s = decide (2147483648 ≤ r) := hs
    have hm0 : m = 0 → (r = 0 ∨ r = 2147483648) := fun h => by
      rcases (read32 r hd).2 with ⟨h1, h2, h3⟩ | ⟨h1, _⟩ <;> omega
    have hb := read_bounds32 r hd
    have hmin : min e (-149) = -149 := by omega
    have hz : ∀ k : Nat, Ieee.signed false 0 k = 0 := fun k => by simp [Ieee.signed]
    simp only [Ieee.Datum.order, Ieee.Datum.isNaN, hmin, hz]
    cases s
    · have : ¬ 2147483648 ≤ r := by simpa using hs.symm
      have h2 : (decide (2147483648 < r) && true) = false := by simp; omega
      have h3 : ¬ Ieee.signed false m (e - -149).toNat < 0 := by
        simp only [Ieee.signed, Bool.false_eq_true, if_false]
        have := Int.natCast_nonneg (m <<< (e - -149).toNat)
        omega
      simp only [Bool.not_false, h2]
      rw [beq_eq_false_iff_ne]
      intro h
      simp only [Option.some.injEq] at h
      exact h3 (Int.compare_eq_lt.1 h)
    · have hle : 2147483648 ≤ r := by simpa using hs.symm
      by_cases h0 : m = 0
      · obtain rfl : r = 2147483648 := by rcases hm0 h0 with h | h <;> omega
        subst h0
        simp [Ieee.signed, Int.compare_eq_lt]
      · have hr0 : r ≠ 2147483648 := by rintro rfl; rw [show Ieee.single.read 2147483648 = .number true 0 (-149) by decide +kernel] at hd; cases hd; exact h0 rfl
        have h2 : (decide (2147483648 < r) && true) = true := by simp; omega
        simp only [Bool.not_false, h2]
        have h3 : Ieee.signed true m (e - -149).toNat < 0 := by
          simp only [Ieee.signed, if_true]
          have : 0 < m <<< (e - -149).toNat := by rw [Nat.shiftLeft_eq]; exact Nat.mul_pos (by omega) (Nat.two_pow_pos _)
          omega
        rw [Int.compare_eq_lt.2 h3]
        rfl
theorem absC_can {r x : Nat} (hr : FV .f32 r x) : absC x = if isN .f32 r then nanC .f32 else r % 2147483648 := by
  unfold absC
  rw [← hr.isN]
  split
  · rfl
  · rename_i h
    rw [hr.eq_of_not (by rw [← hr.isN]; simpa using h)]
theorem numB_nan {x : Nat} (h : isN .f32 x = true) : numB x = false := by
  unfold numB absC
  rw [if_pos h, show FloatKind.f32.format.order (nanC .f32) 1895825408 = none from order_nan _ _ _ (.inl (isN_nanC _))]
  rfl
theorem size_num {r x : Nat} (hr : FV .f32 r x) : (FloatKind.f32.format.order (sizeR r) 1895825408 == some Ordering.lt) = numB x := by
  have hlt : r < 4294967296 := hr.1
  cases hn : isN .f32 r with
  | true =>
    have h0 := order_zero r hlt
    rw [hn, Bool.not_true, Bool.and_false] at h0
    rw [numB_nan (by rw [← hr.isN]; exact hn)]
    unfold sizeR
    rw [h0]
    simp only [Bool.false_eq_true, if_false]
    rw [show FloatKind.f32.format.order r 1895825408 = none from order_nan _ _ _ (.inl hn)]
    rfl
  | false =>
    have h0 := order_zero r hlt
    rw [hn, Bool.not_false, Bool.and_true] at h0
    have ha := absC_can hr
    rw [hn] at ha
    simp only [Bool.false_eq_true, if_false] at ha
    unfold numB sizeR
    rw [ha, h0]
    by_cases h : 2147483648 < r
    · rw [decide_eq_true h, if_pos rfl]
      have e : r ^^^ 2147483648 = r % 2147483648 := by
        obtain ⟨t, rfl⟩ : ∃ t, r = 2147483648 + t := ⟨r - 2147483648, by omega⟩
        rw [xor_sign (by omega)]; omega
      rw [e]
    · rw [decide_eq_false h]
      simp only [Bool.false_eq_true, if_false]
      by_cases h2 : r = 2147483648
      · subst h2; decide +kernel
      · rw [Nat.mod_eq_of_lt (by omega)]
/-- The wide number's bits without the sign. -/
def absW (b : Nat) : Nat := b % 9223372036854775808
theorem run_bits64 (w : World) (b : Nat) : (callFunc 104 #[.float .f64 b]).run Try.prog w = .ok (.value (.int .u64 (b : Int))) w := by kernel_rfl
theorem run_from64 (w : World) (n : Nat) : (callFunc 103 #[.int .u64 (n : Int)]).run Try.prog w = .ok (.value (.float .f64 n)) w := by kernel_rfl
set_option maxRecDepth 100000 in
set_option maxHeartbeats 400000 in
theorem mathAbs_any (w : World) (b : Nat) (hb : b < 18446744073709551616) :
    Calls Try.prog 92 #[.float .f64 b] w fun e w' => e = .returned (.float .f64 (absW b)) ∧ w' = w := by
  have h1 := run_bits64
  have h2 := run_from64 w (absW b)
  have hb2 : bits BinOp.andNot IntKind.u64 (b : Int) 9223372036854775808 = ((absW b : Nat) : Int) := by
    have := u64_andNot_nat b 9223372036854775808 hb (by decide)
    rw [show ((9223372036854775808 : Nat) : Int) = 9223372036854775808 from rfl] at this
    rw [this]
    unfold absW
    congr 1
    exact Nat.and_two_pow_sub_one_eq_mod b 63
  go_enter Try.func92, Try.ntmps92
  go_wp2
  go_ret
  exact ⟨rfl, rfl⟩
/-- The narrow number behind. -/
def nres (r : Nat) (w : World) : Nat := if isN .f32 r then nanOf .f32 (w.tape w.drawn (.nanConv .f32 0)) else r % 2147483648

theorem absW_word (s : Bool) (rung : Nat) (h : rung < 9223372036854775808) : absW (Ieee.double.word s rung) = Ieee.double.word false rung := by
  have e1 : Ieee.double.signWeight = 9223372036854775808 := by decide
  unfold absW Ieee.Format.word
  rw [e1]
  cases s <;> simp <;> omega
def plusD : Ieee.Datum → Ieee.Datum
  | .number _ m e => .number false m e
  | .infinity _ => .infinity false
  | .nan _ t => .nan false t
theorem read_plus (f : Ieee.Format) (b : Nat) : f.read (b % f.signWeight) = plusD (f.read b) := by
  have hp : 0 < f.signWeight := Nat.two_pow_pos _
  have h1 : b % f.signWeight / f.signWeight = 0 := Nat.div_eq_of_lt (Nat.mod_lt _ hp)
  have h2 : b % f.signWeight % f.signWeight = b % f.signWeight := Nat.mod_mod _ _
  unfold Ieee.Format.read
  rw [h1, h2]
  dsimp only
  split
  · rfl
  · split
    · rfl
    · split <;> rfl
theorem read_absW (b : Nat) : Ieee.double.read (absW b) = plusD (Ieee.double.read b) := by
  have := read_plus Ieee.double b
  rw [show Ieee.double.signWeight = 9223372036854775808 by decide] at this
  exact this
theorem read_abs32 (b : Nat) : Ieee.single.read (b % 2147483648) = plusD (Ieee.single.read b) := by
  have := read_plus Ieee.single b
  rw [show Ieee.single.signWeight = 2147483648 by decide] at this
  exact this
theorem inf_rung32 (r : Nat) {s : Bool} (h : Ieee.single.read r = .infinity s) : r % 2147483648 = 2139095040 := by
  have e1 : Ieee.single.signWeight = 2147483648 := by decide
  have e2 : Ieee.single.binade = 8388608 := by decide
  have e3 : Ieee.single.infRung = 2139095040 := by decide
  unfold Ieee.Format.read at h
  rw [e1, e2, e3] at h
  dsimp only at h
  split at h
  · cases h
  · split at h
    · cases h
    · split at h
      · assumption
      · cases h
theorem abs_nan (r x : Nat) (hr : FV .f32 r x) (w : World) (hn : isN .f32 r = true) : ∃ s t, FloatKind.f64.decode (absW (cres r w)) = .nan s t := by
  have hnn : isN .f64 (cres r w) = true := by
    unfold cres
    rw [if_pos hn]
    have := nanOf_fv .f64 (w.tape w.drawn (.nanConv .f64 r))
    rw [this.isN]
    exact isN_nanC _
  obtain ⟨s', t', e⟩ := datum_nan hnn
  refine ⟨false, t', (read_absW _).trans ?_⟩
  rw [show Ieee.double.read (cres r w) = .nan s' t' from e]
  rfl
theorem abs_inf (r : Nat) (w : World) (s : Bool) (hd : Ieee.single.read r = .infinity s) : Ieee.double.read (absW (cres r w)) = .infinity false := by
  have hn : isN .f32 r = false := by
    show (Ieee.single.read r).isNaN = false
    rw [hd]; rfl
  have hc : cres r w = Ieee.double.write (.infinity s) := by
    unfold cres
    rw [hn]
    show Ieee.double.write (Ieee.single.read r) = _
    rw [hd]
  rw [read_absW, hc]
  cases s <;> decide +kernel
theorem abs_number (r : Nat) (w : World) (s : Bool) (m : Nat) (e : Int) (hd : Ieee.single.read r = .number s m e) : ∃ M P, Ieee.double.read (absW (cres r w)) = .number false M P ∧ Ieee.single.write (.number false M P) = r % 2147483648 := by
  have hn : isN .f32 r = false := by
    show (Ieee.single.read r).isNaN = false
    rw [hd]; rfl
  have hb := read_bounds32 r hd
  have h32 := (read32 r hd).2
  have hc : cres r w = Ieee.double.nearest s m e := by
    unfold cres
    rw [hn]
    show Ieee.double.write (Ieee.single.read r) = _
    rw [hd]
    rfl
  by_cases hm0 : m = 0
  · subst hm0
    have hz : r % 2147483648 = 0 := by
      rcases h32 with ⟨-, -, h⟩ | ⟨h, -⟩
      · exact h
      · omega
    refine ⟨0, -1074, ?_, ?_⟩
    · rw [read_absW, hc, show Ieee.double.nearest s 0 e = Ieee.double.word s 0 by unfold Ieee.Format.nearest; rw [if_pos rfl]]
      cases s <;> decide +kernel
    · rw [hz]; decide +kernel
  · obtain ⟨rung, h1, h2, h3⟩ := wide_number s m e hm0 hb.1 hb.2.1 hb.2.2
    have hN := narrow_number m e hm0 hb.1 hb.2.1 hb.2.2 (fun h => by rcases h32 with ⟨-, h, -⟩ | ⟨h, -⟩ <;> omega)
    refine ⟨m * 2 ^ (52 - m.log2), e - (52 - m.log2 : Nat), ?_, ?_⟩
    · rw [read_absW, hc, h1, h3 s]; rfl
    · have hw : ∀ M P, Ieee.single.write (.number false M P) = Ieee.single.nearest false M P := fun _ _ => rfl
      rw [hw, hN]
      rcases h32 with ⟨-, h5, h6⟩ | ⟨-, -, -, -, h6⟩
      · rw [h6, h5, show ((-149 : Int) + 149).toNat = 0 by decide, Nat.zero_mul, Nat.zero_add]
      · exact h6
theorem enc_inf32 : FloatKind.f32.encode (.infinity false) = 2139095040 := by decide +kernel
theorem fv_inf32 : FV .f32 2139095040 2139095040 := ⟨by decide, by decide +kernel⟩
theorem narrow_nan {P : Program} (b : Nat) (w1 : World) (h : ∃ s t, FloatKind.f64.decode b = .nan s t) : (Conv.floatToFloat .f64 b .f32).run P w1 = .ok (.float .f32 (nanOf .f32 (w1.tape w1.drawn (.nanConv .f32 b)))) (w1.drewN 1) := by
  obtain ⟨s, t, h⟩ := h
  unfold Conv.floatToFloat
  rw [if_neg (by decide), h]
  simp [choose, Sem.run, Question.forced, cut_nanConv]; rfl
theorem narrow_inf {P : Program} (b : Nat) (w1 : World) (h : FloatKind.f64.decode b = .infinity false) : (Conv.floatToFloat .f64 b .f32).run P w1 = .ok (.float .f32 2139095040) (w1.drewN 0) := by
  unfold Conv.floatToFloat
  rw [if_neg (by decide), h]
  dsimp only
  rw [enc_inf32]
  rfl
theorem narrow_num {P : Program} (b q : Nat) (w1 : World) (M : Nat) (E : Int) (h : FloatKind.f64.decode b = .number false M E) (hq : FloatKind.f32.encode (.number false M E) = q) (hi : (FloatKind.f32.decode q).isInfinity = false) : (Conv.floatToFloat .f64 b .f32).run P w1 = .ok (.float .f32 q) (w1.drewN 0) := by
  unfold Conv.floatToFloat
  rw [if_neg (by decide), h]
  dsimp only
  rw [hq, hi]
  rfl
theorem run_narrow_abs {P : Program} (src dst : TypeId) (hs : (P.underlying src).isSome = true) (hd : P.underlying dst = some (.float .f32)) (r x : Nat) (hr : FV .f32 r x) (w w1 : World) :
    ∃ q n, (convert src dst (.float .f64 (absW (cres r w)))).run P w1 = .ok (.float .f32 q) (w1.drewN n) ∧ FV .f32 q (absC x) := by
  obtain ⟨u, hs'⟩ := Option.isSome_iff_exists.1 hs
  have key : ∃ q n, (Conv.floatToFloat .f64 (absW (cres r w)) .f32).run P w1 = .ok (.float .f32 q) (w1.drewN n) ∧ FV .f32 q (absC x) := by
    have ha := absC_can hr
    cases hd : Ieee.single.read r with
    | nan s t =>
      have hn : isN .f32 r = true := by show (Ieee.single.read r).isNaN = true; rw [hd]; rfl
      rw [ha, if_pos hn]
      exact ⟨_, _, narrow_nan _ _ (abs_nan r x hr w hn), nanOf_fv _ _⟩
    | infinity s =>
      have hn : isN .f32 r = false := by show (Ieee.single.read r).isNaN = false; rw [hd]; rfl
      rw [ha, hn, if_neg (by decide), inf_rung32 r hd]
      exact ⟨_, _, narrow_inf _ _ (abs_inf r w s hd), fv_inf32⟩
    | number s m e =>
      have hn : isN .f32 r = false := by show (Ieee.single.read r).isNaN = false; rw [hd]; rfl
      have h32r := read_abs32 r
      rw [hd] at h32r
      obtain ⟨M, E, h1, h2⟩ := abs_number r w s m e hd
      rw [ha, hn, if_neg (by decide)]
      refine ⟨_, _, narrow_num _ (r % 2147483648) w1 M E h1 h2 ?_, Nat.lt_of_le_of_lt (Nat.mod_le _ _) hr.1, can_of_not ?_⟩
      · show (Ieee.single.read (r % 2147483648)).isInfinity = false
        rw [h32r]; rfl
      · show (Ieee.single.read (r % 2147483648)).isNaN = false
        rw [h32r]; rfl
  obtain ⟨q, n, h1, h2⟩ := key
  refine ⟨q, n, ?_, h2⟩
  cases u <;> simp [convert, run_underlying hs', run_underlying hd, h1]
set_option maxRecDepth 100000 in
set_option maxHeartbeats 800000 in
theorem absolute_any (w : World) (r x : Nat) (hr : FV .f32 r x) :
    Calls Try.prog 65 #[.float .f32 r] w fun e w' => ∃ q n, e = .returned (.float .f32 q) ∧ FV .f32 q (absC x) ∧ w' = w.drewN n := by
  have hcv := run_widen (P := Try.prog) 27 40 (by kernel_rfl) (by kernel_rfl)
  have hw : cres r w < 18446744073709551616 := (hr.wide w).1
  obtain ⟨q, n, h1, h2⟩ := run_narrow_abs (P := Try.prog) 40 27 (by kernel_rfl) (by kernel_rfl) r x hr w (w.drewN (ccnt r))
  have HK := Lib.hid (mathAbs_any (w.drewN (ccnt r)) (cres r w) hw)
  go_enter Try.func65, Try.ntmps65
  go_wp2_with fail
  refine HK.out.mono ?_
  rintro e w1 ⟨rfl, rfl⟩
  go_wp2
  go_ret
  exact ⟨q, _, rfl, h2, rfl⟩
end Go.Proofs.Ythacadbdncfocaa
