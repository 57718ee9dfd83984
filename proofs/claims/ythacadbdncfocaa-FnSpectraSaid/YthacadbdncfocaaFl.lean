/- Floats up to the bits of not-a-numbers: 'FV k r x': the bits r stand for the class x, in which all not-a-numbers are one. -/
import Derived.Laws.FloatArith
import Derived.Deep.Draws
import Derived.WalkKit
import Derived.WalkLawsBesides
import Derived.Lib.Hide
namespace Go.Proofs.Ythacadbdncfocaa
open Go

def isN (k : FloatKind) (b : Nat) : Bool := (k.decode b).isNaN
def nanC : FloatKind → Nat
  | .f32 => 2143289344
  | .f64 => 9221120237041090560
def can (k : FloatKind) (b : Nat) : Nat := if isN k b then nanC k else b
def FV (k : FloatKind) (r x : Nat) : Prop := r < 2 ^ k.format.width ∧ can k r = x
def fop (op : BinOp) (k : FloatKind) (x y : Nat) : Nat := (floatBits op k x y).getD (nanC k)
def fres (op : BinOp) (k : FloatKind) (x y : Nat) (w : World) : Nat :=
  match floatBits op k x y with
  | some r => r
  | none => (Question.nanBits k x y).cut (w.tape w.drawn (.nanBits k x y))
def fcnt (op : BinOp) (k : FloatKind) (x y : Nat) : Nat := if (floatBits op k x y).isSome then 0 else 1

theorem isN_nanC (k : FloatKind) : isN k (nanC k) = true := by cases k <;> decide +kernel
theorem nanC_lt (k : FloatKind) : nanC k < 2 ^ k.format.width := by cases k <;> decide +kernel
theorem isN_can (k : FloatKind) (b : Nat) : isN k (can k b) = isN k b := by
  unfold can
  split
  · rename_i h; rw [isN_nanC, h]
  · rfl
theorem can_can (k : FloatKind) (b : Nat) : can k (can k b) = can k b := by
  have h := isN_can k b
  unfold can at *
  split <;> simp_all
theorem can_of_not {k : FloatKind} {b : Nat} (h : isN k b = false) : can k b = b := by simp [can, h]
theorem can_of_nan {k : FloatKind} {b : Nat} (h : isN k b = true) : can k b = nanC k := by simp [can, h]
theorem can_lt {k : FloatKind} {b : Nat} (h : b < 2 ^ k.format.width) : can k b < 2 ^ k.format.width := by
  unfold can; split
  · exact nanC_lt k
  · exact h
theorem datum_nan {d : Ieee.Datum} (h : d.isNaN = true) : ∃ s t, d = .nan s t := by
  cases d <;> simp [Ieee.Datum.isNaN] at h
  exact ⟨_, _, rfl⟩

theorem add_nan (f : Ieee.Format) (x y : Nat) (h : (f.read x).isNaN = true ∨ (f.read y).isNaN = true) : f.add x y = none := by
  unfold Ieee.Format.add
  rcases h with h | h <;> obtain ⟨s, t, e⟩ := datum_nan h <;> rw [e]
  · simp [Ieee.Datum.sum]
  · cases f.read x <;> simp [Ieee.Datum.sum]
theorem sub_nan (f : Ieee.Format) (x y : Nat) (h : (f.read x).isNaN = true ∨ (f.read y).isNaN = true) : f.sub x y = none := by
  unfold Ieee.Format.sub
  rcases h with h | h <;> obtain ⟨s, t, e⟩ := datum_nan h <;> rw [e]
  · simp [Ieee.Datum.sum]
  · cases f.read x <;> simp [Ieee.Datum.sum, Ieee.Datum.opposite]
theorem mul_nan (f : Ieee.Format) (x y : Nat) (h : (f.read x).isNaN = true ∨ (f.read y).isNaN = true) : f.mul x y = none := by
  unfold Ieee.Format.mul
  rcases h with h | h <;> obtain ⟨s, t, e⟩ := datum_nan h <;> rw [e]
  · simp [Ieee.Datum.product]
  · cases f.read x <;> simp [Ieee.Datum.product]
theorem div_nan (f : Ieee.Format) (x y : Nat) (h : (f.read x).isNaN = true ∨ (f.read y).isNaN = true) : f.div x y = none := by
  unfold Ieee.Format.div
  rcases h with h | h <;> obtain ⟨s, t, e⟩ := datum_nan h <;> rw [e]
  · simp [Ieee.Datum.quotient]
  · cases f.read x <;> simp [Ieee.Datum.quotient]
theorem order_nan (f : Ieee.Format) (x y : Nat) (h : (f.read x).isNaN = true ∨ (f.read y).isNaN = true) : f.order x y = none := by
  unfold Ieee.Format.order
  rcases h with h | h <;> obtain ⟨s, t, e⟩ := datum_nan h <;> rw [e]
  · simp [Ieee.Datum.order]
  · cases f.read x <;> simp [Ieee.Datum.order]
theorem floatBits_nan (op : BinOp) (k : FloatKind) (x y : Nat) (h : isN k x = true ∨ isN k y = true) : floatBits op k x y = none := by
  unfold floatBits
  have h' : (k.format.read x).isNaN = true ∨ (k.format.read y).isNaN = true := h
  split
  · exact add_nan _ _ _ h'
  · exact sub_nan _ _ _ h'
  · exact mul_nan _ _ _ h'
  · exact div_nan _ _ _ h'
  · rfl
theorem floatBits_can (op : BinOp) (k : FloatKind) (x y : Nat) : floatBits op k (can k x) (can k y) = floatBits op k x y := by
  by_cases hx : isN k x = true
  · rw [floatBits_nan op k x y (.inl hx), floatBits_nan]
    rw [isN_can]; exact .inl hx
  · by_cases hy : isN k y = true
    · rw [floatBits_nan op k x y (.inr hy), floatBits_nan]
      rw [isN_can, isN_can]; exact .inr hy
    · rw [can_of_not (by simpa using hx), can_of_not (by simpa using hy)]
theorem order_can (k : FloatKind) (x y : Nat) : k.format.order (can k x) (can k y) = k.format.order x y := by
  by_cases hx : isN k x = true
  · rw [order_nan _ x y (.inl hx), order_nan]
    exact .inl (by have := isN_can k x; rw [hx] at this; exact this)
  · by_cases hy : isN k y = true
    · rw [order_nan _ x y (.inr hy), order_nan]
      exact .inr (by have := isN_can k y; rw [hy] at this; exact this)
    · rw [can_of_not (by simpa using hx), can_of_not (by simpa using hy)]

/-- Whatever is written of a number or of an infinity is no not-a-number. -/
theorem read_word_le (f : Ieee.Format) (neg : Bool) (rung : Nat) (h : rung ≤ f.infRung) : (f.read (f.word neg rung)).isNaN = false := by
  have hs : 0 < f.signWeight := Nat.two_pow_pos _
  have hi := f.infRung_lt
  have hr : (f.word neg rung) % f.signWeight = rung := by
    unfold Ieee.Format.word
    split
    · rw [Nat.add_mod_left, Nat.mod_eq_of_lt (by omega)]
    · rw [Nat.mod_eq_of_lt (by omega)]
  unfold Ieee.Format.read
  rw [hr]
  dsimp only
  split
  · rfl
  · split
    · rfl
    · rw [if_pos (by omega)]; rfl
theorem nearest_not_nan (f : Ieee.Format) (neg : Bool) (m : Nat) (p : Int) : (f.read (f.nearest neg m p)).isNaN = false := by
  unfold Ieee.Format.nearest
  dsimp only
  split
  · exact read_word_le f neg 0 (Nat.zero_le _)
  · exact read_word_le f neg _ (Nat.min_le_right _ _)
theorem write_not_nan (f : Ieee.Format) (d : Ieee.Datum) (h : d.isNaN = false) : (f.read (f.write d)).isNaN = false := by
  cases d with
  | number s m e => exact nearest_not_nan f s m e
  | infinity s => exact read_word_le f s _ (Nat.le_refl _)
  | nan s t => simp [Ieee.Datum.isNaN] at h
theorem sum_not_nan {a b d : Ieee.Datum} (h : Ieee.Datum.sum a b = some d) : d.isNaN = false := by
  cases a <;> cases b <;> simp only [Ieee.Datum.sum] at h
  all_goals first | (cases h; done) | (cases h; rfl) | (split at h <;> cases h; rfl)
theorem product_not_nan {a b d : Ieee.Datum} (h : Ieee.Datum.product a b = some d) : d.isNaN = false := by
  cases a <;> cases b <;> simp only [Ieee.Datum.product] at h
  all_goals first | (cases h; done) | (cases h; rfl) | (split at h <;> cases h; rfl)
theorem quotient_not_nan {n : Nat} {a b d : Ieee.Datum} (h : Ieee.Datum.quotient n a b = some d) : d.isNaN = false := by
  cases a <;> cases b <;> simp only [Ieee.Datum.quotient] at h
  all_goals first | (cases h; done) | (cases h; rfl) | ((repeat' split at h) <;> cases h <;> rfl)
theorem map_write_not_nan {f : Ieee.Format} {o : Option Ieee.Datum} {r : Nat} (h : o.map f.write = some r) (hn : ∀ d, o = some d → d.isNaN = false) : (f.read r).isNaN = false := by
  cases o with
  | none => cases h
  | some d => cases h; exact write_not_nan f d (hn d rfl)
theorem floatBits_not_nan {op : BinOp} {k : FloatKind} {x y r : Nat} (h : floatBits op k x y = some r) : isN k r = false := by
  unfold floatBits at h
  unfold isN FloatKind.decode
  split at h
  · exact map_write_not_nan h fun d hd => sum_not_nan hd
  · exact map_write_not_nan h fun d hd => sum_not_nan hd
  · exact map_write_not_nan h fun d hd => product_not_nan hd
  · exact map_write_not_nan h fun d hd => quotient_not_nan hd
  · cases h
theorem floatBits_lt {op : BinOp} {k : FloatKind} {x y r : Nat} (h : floatBits op k x y = some r) : r < 2 ^ k.format.width := by
  unfold floatBits at h
  split at h
  · exact k.format.add_lt h
  · exact k.format.sub_lt h
  · exact k.format.mul_lt h
  · exact k.format.div_lt h
  · cases h
theorem nan_rung32 (s t : Nat) (h : t < 2 ^ 23 - 1) (hs : s < 2) : (Ieee.single.read (s * 2 ^ 31 + 0x7f800000 + 1 + t)).isNaN = true := by
  have e1 : Ieee.single.signWeight = 2147483648 := by decide
  have e2 : Ieee.single.binade = 8388608 := by decide
  have e3 : Ieee.single.infRung = 2139095040 := by decide
  unfold Ieee.Format.read
  rw [e1, e2, e3]
  dsimp only
  rw [if_neg (by omega), if_neg (by omega), if_neg (by omega)]
  rfl
theorem nan_rung64 (s t : Nat) (h : t < 2 ^ 52 - 1) (hs : s < 2) : (Ieee.double.read (s * 2 ^ 63 + 0x7ff0000000000000 + 1 + t)).isNaN = true := by
  have e1 : Ieee.double.signWeight = 9223372036854775808 := by decide
  have e2 : Ieee.double.binade = 4503599627370496 := by decide
  have e3 : Ieee.double.infRung = 9218868437227405312 := by decide +kernel
  unfold Ieee.Format.read
  rw [e1, e2, e3]
  dsimp only
  rw [if_neg (by omega), if_neg (by omega), if_neg (by omega)]
  rfl
theorem width32 : FloatKind.f32.format.width = 32 := by decide
theorem width64 : FloatKind.f64.format.width = 64 := by decide
/-- What the tape gives for a not-a-number. -/
def nanOf (k : FloatKind) (t : Nat) : Nat := match k with
  | .f32 => (t % 2) * 2 ^ 31 + 0x7f800000 + 1 + (t / 2) % (2 ^ 23 - 1)
  | .f64 => (t % 2) * 2 ^ 63 + 0x7ff0000000000000 + 1 + (t / 2) % (2 ^ 52 - 1)
theorem nanOf_fv (k : FloatKind) (t : Nat) : FV k (nanOf k t) (nanC k) := by
  cases k
  · have h := nan_rung32 (t % 2) ((t / 2) % (2 ^ 23 - 1)) (Nat.mod_lt _ (by decide)) (Nat.mod_lt _ (by decide))
    refine ⟨?_, can_of_nan h⟩
    rw [width32]; unfold nanOf; simp only; omega
  · have h := nan_rung64 (t % 2) ((t / 2) % (2 ^ 52 - 1)) (Nat.mod_lt _ (by decide)) (Nat.mod_lt _ (by decide))
    refine ⟨?_, can_of_nan h⟩
    rw [width64]; unfold nanOf; simp only; omega
theorem cut_nanBits (k : FloatKind) (x y t : Nat) : (Question.nanBits k x y).cut t = nanOf k t := by cases k <;> rfl
theorem cut_nanConv (k : FloatKind) (x t : Nat) : (Question.nanConv k x).cut t = nanOf k t := by cases k <;> rfl

theorem FV.op {op : BinOp} {k : FloatKind} {a b x y : Nat} (ha : FV k a x) (hb : FV k b y) (w : World) : FV k (fres op k a b w) (fop op k x y) := by
  have e : floatBits op k a b = floatBits op k x y := by rw [← ha.2, ← hb.2, floatBits_can]
  unfold fres fop
  rw [e]
  cases h : floatBits op k x y with
  | some r => exact ⟨floatBits_lt h, can_of_not (floatBits_not_nan h)⟩
  | none => simp only [Option.getD_none]; rw [cut_nanBits]; exact nanOf_fv k _
theorem FV.order {k : FloatKind} {a b x y : Nat} (ha : FV k a x) (hb : FV k b y) : k.format.order a b = k.format.order x y := by
  rw [← ha.2, ← hb.2, order_can]
theorem FV.self {k : FloatKind} {x : Nat} (h : x < 2 ^ k.format.width) (hn : isN k x = false) : FV k x x := ⟨h, can_of_not hn⟩
theorem FV.can {k : FloatKind} {x : Nat} (h : x < 2 ^ k.format.width) : FV k x (can k x) := ⟨h, rfl⟩
theorem FV.lt {k : FloatKind} {r x : Nat} (h : FV k r x) : x < 2 ^ k.format.width := by rw [← h.2]; exact can_lt h.1
/-- A class stands for itself. -/
theorem FV.cls {k : FloatKind} {r x : Nat} (h : FV k r x) : FV k x x := ⟨h.lt, by rw [← h.2, can_can]⟩
theorem FV.isN {k : FloatKind} {r x : Nat} (h : FV k r x) : isN k r = isN k x := by rw [← h.2, isN_can]
theorem FV.eq_of_not {k : FloatKind} {r x : Nat} (h : FV k r x) (hn : Proofs.Ythacadbdncfocaa.isN k x = false) : r = x := by
  have := h.2
  rw [can_of_not (by rw [h.isN]; exact hn)] at this
  exact this
/-- The classes: what 'can' leaves as it is. -/
def Cls (k : FloatKind) (x : Nat) : Prop := FV k x x
theorem fop_cls {op : BinOp} {k : FloatKind} {x y : Nat} : Cls k (fop op k x y) := by
  unfold fop
  cases h : floatBits op k x y with
  | some r => exact ⟨floatBits_lt h, can_of_not (floatBits_not_nan h)⟩
  | none => exact ⟨nanC_lt k, can_of_nan (isN_nanC k)⟩

section
variable {P : Program}
theorem run_fop (op : BinOp) (h : op = .add ∨ op = .sub ∨ op = .mul ∨ op = .quo) (w : World) (t : TypeId) (k : FloatKind) (x y : Nat) :
    (binOp op t (.float k x) (.float k y)).run P w = .ok (.float k (fres op k x y w)) (w.drewN (fcnt op k x y)) := by
  rcases h with rfl | rfl | rfl | rfl
  all_goals
    cases h : floatBits _ k x y with
    | some r =>
      rw [run_float_arith w _ t k x y r h]
      simp [fres, fcnt, h]; rfl
    | none =>
      have h' := h
      simp only [floatBits] at h'
      simp [binOp, Op.floatArith, h', fres, fcnt, h, choose, Sem.run, Question.forced, cut_nanBits]
      rfl
theorem run_fadd (w : World) (t : TypeId) (k : FloatKind) (x y : Nat) : (binOp .add t (.float k x) (.float k y)).run P w = .ok (.float k (fres .add k x y w)) (w.drewN (fcnt .add k x y)) := run_fop .add (by simp) w t k x y
theorem run_fsub (w : World) (t : TypeId) (k : FloatKind) (x y : Nat) : (binOp .sub t (.float k x) (.float k y)).run P w = .ok (.float k (fres .sub k x y w)) (w.drewN (fcnt .sub k x y)) := run_fop .sub (by simp) w t k x y
theorem run_fmul (w : World) (t : TypeId) (k : FloatKind) (x y : Nat) : (binOp .mul t (.float k x) (.float k y)).run P w = .ok (.float k (fres .mul k x y w)) (w.drewN (fcnt .mul k x y)) := run_fop .mul (by simp) w t k x y
theorem run_fquo (w : World) (t : TypeId) (k : FloatKind) (x y : Nat) : (binOp .quo t (.float k x) (.float k y)).run P w = .ok (.float k (fres .quo k x y w)) (w.drewN (fcnt .quo k x y)) := run_fop .quo (by simp) w t k x y
theorem run_store_float (w : World) (a : Addr) (k : FloatKind) (n : Nat) (m : Mode) : (store a (.float k n) m).run P w = stored P w a (.float k n) m := run_store P w a _ m rfl
theorem run_store_complex (w : World) (a : Addr) (k : FloatKind) (n q : Nat) (m : Mode) : (store a (.complex k n q) m).run P w = stored P w a (.complex k n q) m := run_store P w a _ m rfl
end
end Go.Proofs.Ythacadbdncfocaa
