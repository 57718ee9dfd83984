/- Walks: the set of all stations: the reference's; lists of integers: eq, marks. -/
import Derived.Test.YtibojlpeaolfbaaVal
namespace Go.Proofs.Ytibojlpeaolfbaa
open Go Go.RowKit

theorem Try.infoI : (Try.prog.info? 2).map (fun i => (i.zero, i.size, i.bytes)) = some (some (.int .i64 0), 1, 8) := by kernel_rfl
def inL (L : List Int) (j : Nat) : Int := L.getD j 0
theorem RdI.opened {w : World} {v : Value} {L : List Int} (h : RdI w v L) :
    ∃ a c, v = .slice a L.length c ∧ L.length ≤ c ∧ (a = none → c = 0) ∧ ∀ j, j < L.length → ∃ b o, a = some ⟨b, o, none⟩ ∧ b < w.heap.size ∧ w.cell? ⟨b, o + j, none⟩ = some (.int .i64 (inL L j)) := by
  obtain ⟨a, c, hv, hc, hz, hr⟩ := h
  refine ⟨a, c, hv, hc, hz, fun j hj => ?_⟩
  obtain ⟨b, o, u, ha, hu, rfl⟩ := hr j hj
  exact ⟨b, o, ha, block_lt hu, hu⟩
theorem RdI.mono {w w' : World} {v : Value} {L : List Int} (h : RdI w v L) (hb : Below w.heap.size w w') : RdI w' v L := RdP.mono h hb
theorem OwnI.kept {w w' : World} {B : Nat} {v : Value} {L : List Int} (h : OwnI w B v L) (hb : Below w.heap.size w w') : OwnI w' B v L :=
  ownsRow_same h fun k hk => hb.block k (World.ownsRow.lt h k hk).2
theorem OwnI.base {w : World} {B C : Nat} {v : Value} {L : List Int} (h : OwnI w B v L) (hc : C ≤ B) : OwnI w C v L := ownsRow_lower h hc
/-- A number put into a set. -/
def putL : List Int → Int → List Int
  | [], n => [n]
  | x :: r, n => if n ≤ x then (if n < x then n :: x :: r else x :: r) else x :: putL r n
theorem putL_len (L : List Int) (n : Int) : (putL L n).length ≤ L.length + 1 := by
  induction L with
  | nil => simp [putL]
  | cons x r ih =>
    unfold putL
    split
    · split <;> simp
    · simp; exact ih
theorem drop_cons_inL {L : List Int} {i : Nat} (h : i < L.length) : L.drop i = inL L i :: L.drop (i + 1) := by
  rw [List.drop_eq_getElem_cons h]
  congr 1
  unfold inL
  rw [List.getD_eq_getElem?_getD, List.getElem?_eq_getElem h]
  rfl
def PutAt (L : List Int) (n : Int) (i : Nat) (dn : Bool) (pre : List Int) : Prop := pre ++ (if dn then L.drop i else putL (L.drop i) n) = putL L n ∧ pre.length ≤ i + (if dn then 1 else 0)
/-- The stations of the first frames, as a set. -/
def stTo (Fs : List FM) : Nat → List Int
  | 0 => []
  | j + 1 => putL (stTo Fs j) (frAt Fs j).st
theorem stTo_len (Fs : List FM) (j : Nat) : (stTo Fs j).length ≤ j := by
  induction j with
  | zero => exact Nat.le_refl _
  | succ j ih => exact Nat.le_trans (putL_len _ _) (by omega)
/-- What StationsOf answers. -/
def staV (Fs : List FM) (B : Nat) (e : Ending) (w' : World) : Prop :=
  ∃ v, e = .returned (.tuple #[v, .bool (areF Fs)]) ∧ OwnI w' B v (if areF Fs then stTo Fs Fs.length else [])
end Go.Proofs.Ytibojlpeaolfbaa
