/- Bytes and texts: digits, rows of bytes and of strings that the call owns. -/
import Derived.Test.YthacadbdncfocaaTreeB
import Derived.Test.YthacadbdncfocaaChg
import Derived.Test.YthacadbdncfocaaInb
import Derived.Laws.IdiomStrings
import Derived.Laws.BitsLemmas
namespace Go.Proofs.Ythacadbdncfocaa
open Go Go.RowKit

/-- 'append' of one element of one cell to a slice of the call's own. -/
theorem wpList_push1 {P : Program} {ops : Array Oper} {rest : List Oper} {o : Oper} {a : Act} {w : World} {Q : Exit → Act → World → Prop} (hgd : o.guard = none) (s x : Operand) (t e : TypeId)
    (ho : o.op = .call { callee := .builtin .append, args := #[s, x], argTypes := #[t, t] }) (z : Value) (bytes : Nat) (ht : P.underlying t = some (.slice e)) (hinfo : (P.info? e).map (fun i => (i.zero, i.size, i.bytes)) = some (some z, 1, bytes))
    (hzs : z.cells.size = 1) (hby : bytes ≤ 100) (B : Nat) (v : Value) (n : Nat) (xs : List Value) (hs : a.eval s = v) (hown : w.ownsRow B e 1 v n xs)
    (ad : Addr) (c : Nat) (u : Value) (hx : a.eval x = .slice (some ad) 1 c) (hcell : w.cell? ad = some u) (hu : u.oneCell' = true) (hlen : n ≤ 1048576) (hB : B ≤ w.heap.size)
    (h : ∀ v' w', w'.ownsRow B e 1 v' (n + 1) (xs ++ [u]) → w.grownBy w' v.ownBlock → Below B w w' → wpList P ops Q rest (a.put o.dst v') w') : wpList P ops Q (o :: rest) a w := by
  obtain ⟨i0, hi, hz0, hz1, hz2⟩ := info_parts hinfo
  refine wpList_append_own2 hgd s x t ho B e i0 z 1 bytes ht hi hz0 hz1 hz2 hzs (by decide) v n xs hs hown ad 1 c [u] hx rfl ?_ ?_ ?_ ?_ hB ?_
  · intro j y hy
    match j, hy with
    | 0, hy =>
      simp at hy; subst hy
      have : ad.add 0 = ad := by unfold Addr.add; split <;> simp_all
      rw [this]; exact hcell
  · intro y hy; simp at hy; subst hy; exact hu
  · unfold maxLen; omega
  · exact Nat.le_trans (Nat.mul_le_mul (by omega : n + 1 ≤ 1048577) hby) (by decide)
  · intro v' w' h1 h2 _
    exact h v' w' h1 h2 ((Below.refl _ _).grown h2 hB fun k hk => (hown.lt k hk).1)

def digH (d : Nat) : UInt8 := UInt8.ofNat (if d < 10 then 48 + d else 87 + d)
/-- The last k digits to the base 16. -/
def digs : Nat → Nat → List UInt8
  | 0, _ => []
  | k + 1, n => digs k (n / 16) ++ [digH (n % 16)]
theorem digs_length (k n : Nat) : (digs k n).length = k := by
  induction k generalizing n with
  | zero => rfl
  | succ k ih => rw [digs, List.length_append, ih]; rfl
/-- The first digits. -/
theorem digs_take (k m n : Nat) : (digs (k + m) n).take k = digs k (n / 16 ^ m) := by
  induction m generalizing n with
  | zero => rw [Nat.pow_zero, Nat.div_one]; exact List.take_of_length_le (by rw [digs_length]; omega)
  | succ m ih =>
    rw [show k + (m + 1) = (k + m) + 1 by omega, digs, List.take_append_of_le_length (by rw [digs_length]; omega), ih, Nat.div_div_eq_div_mul, Nat.pow_succ, Nat.mul_comm]
theorem digs_zero (k : Nat) : digs k 0 = List.replicate k 48 := by
  induction k with
  | zero => rfl
  | succ k ih => rw [digs, Nat.zero_div, ih, List.replicate_succ']; rfl
theorem digs_split (k m n : Nat) : digs (k + m) n = digs k (n / 16 ^ m) ++ digs m n := by
  induction m generalizing n with
  | zero => rw [Nat.pow_zero, Nat.div_one]; simp [digs]
  | succ m ih =>
    rw [show k + (m + 1) = (k + m) + 1 by omega, digs, ih, digs, ← List.append_assoc, Nat.div_div_eq_div_mul, Nat.pow_succ, Nat.mul_comm]
theorem and15 (x : Nat) (h : x < 9223372036854775808) : bits .and .i64 (x : Int) 15 = ((x % 16 : Nat) : Int) := by
  have h1 := bits_mask .i64 63 (by decide) (fun n h0 h1 => IntWalk.i64_in _ (by omega)) 4 (by decide) (x : Int) (by omega) (by omega)
  have e : (2 : Int) ^ 4 - 1 = 15 := by decide
  have e2 : (2 : Int) ^ 4 = 16 := by decide
  rw [e, e2] at h1
  rw [h1]
  omega
theorem digAt (d : Nat) (h : d < 16) : (⟨#[48, 49, 50, 51, 52, 53, 54, 55, 56, 57, 97, 98, 99, 100, 101, 102]⟩ : ByteArray)[d]'h = digH d := by
  have : ∀ d : Fin 16, (⟨#[48, 49, 50, 51, 52, 53, 54, 55, 56, 57, 97, 98, 99, 100, 101, 102]⟩ : ByteArray)[d.1]'d.2 = digH d.1 := by decide
  exact this ⟨d, h⟩
def hexT (x : Nat) : ByteArray := ⟨(digs 8 x).toArray⟩
def bv (b : UInt8) : Value := .int .u8 (b.toNat : Int)
def OwnB (w : World) (B : Nat) (v : Value) (L : List UInt8) : Prop := w.ownsRow B 5 1 v L.length (L.map bv)
def OwnStr (w : World) (B : Nat) (v : Value) (L : List ByteArray) : Prop := w.ownsRow B 9 1 v L.length (L.map Value.string)
theorem OwnB.form {w : World} {B : Nat} {v : Value} {L : List UInt8} (h : OwnB w B v L) (hl : L ≠ []) :
    ∃ g cap, v = .slice (some ⟨g, 0, none⟩) L.length cap ∧ B ≤ g ∧ ∀ j (hj : j < L.length), w.cell? ((⟨g, 0, none⟩ : Addr).add j) = some (.int .u8 (L[j].toNat : Int)) := by
  have h0 := h
  rcases h with ⟨-, ⟨-, hn⟩ | ⟨g, cap, cur, rfl, hB, -⟩⟩
  · exact absurd (List.eq_nil_of_length_eq_zero hn) hl
  · refine ⟨g, cap, rfl, hB, fun j hj => ?_⟩
    rw [Addr.add_lit, Nat.zero_add, World.ownsRow.cellAt h0 j (by omega)]
    simp [List.getElem?_eq_getElem hj, bv]
theorem hexT_size (x : Nat) : (hexT x).size = 8 := by
  show (digs 8 x).toArray.size = 8
  rw [List.size_toArray, digs_length]
end Go.Proofs.Ythacadbdncfocaa
