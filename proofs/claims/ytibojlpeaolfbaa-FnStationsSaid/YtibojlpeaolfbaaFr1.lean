/- Frames: lists of them that are read and owned; sizes, copies, equal ones, marks. -/
import Derived.Test.YtibojlpeaolfbaaGen
namespace Go.Proofs.Ytibojlpeaolfbaa
open Go Go.RowKit

/-- A frame. -/
structure FM where
  st : Int
  sa : Int
  L : List Nat
instance : Inhabited FM := ⟨⟨0, 0, []⟩⟩
def frAt (Fs : List FM) (j : Nat) : FM := Fs.getD j default
def frD (f : FM) : List D1 := [.i .i64 f.st, .i .i64 f.sa, .fs f.L]
def dsF : List FM → List D1
  | [] => []
  | f :: Fs => frD f ++ dsF Fs
theorem dsF_length (Fs : List FM) : (dsF Fs).length = Fs.length * 3 := by
  induction Fs with
  | nil => rfl
  | cons f Fs ih => simp only [dsF, frD, List.length_append, List.length_cons, List.length_nil, ih]; omega
theorem dsF_at (Fs : List FM) (j i : Nat) (hj : j < Fs.length) (hi : i < 3) : (dsF Fs).getD (j * 3 + i) default = (frD (frAt Fs j)).getD i default := by
  induction Fs generalizing j with
  | nil => cases hj
  | cons f Fs ih =>
    cases j with
    | zero =>
      rw [Nat.zero_mul, Nat.zero_add]
      simp only [dsF, List.getD_eq_getElem?_getD]
      rw [List.getElem?_append_left (by simp [frD]; omega)]
      rfl
    | succ j =>
      have e : (j + 1) * 3 + i = 3 + (j * 3 + i) := by omega
      rw [e]
      simp only [dsF, List.getD_eq_getElem?_getD]
      rw [List.getElem?_append_right (by simp [frD])]
      have e2 : 3 + (j * 3 + i) - (frD f).length = j * 3 + i := by simp [frD]
      rw [e2]
      have := ih j (by simpa using hj)
      rw [List.getD_eq_getElem?_getD] at this
      rw [this]
      rfl
def RdFr (w : World) (v : Value) (Fs : List FM) : Prop := RdC w v Fs.length (dsF Fs)
theorem RdFr.mono {w w' : World} {v : Value} {Fs : List FM} (h : RdFr w v Fs) (hb : Below w.heap.size w w') : RdFr w' v Fs := RdC.mono h hb
theorem RdFr.opened {w : World} {v : Value} {Fs : List FM} (h : RdFr w v Fs) :
    ∃ a c, v = .slice a Fs.length c ∧ Fs.length ≤ c ∧ (a = none → c = 0) ∧ ∀ j, j < Fs.length → ∃ b o a' c', a = some ⟨b, o, none⟩ ∧ b < w.heap.size ∧ w.cell? ⟨b, o + j * 3, none⟩ = some (.int .i64 (frAt Fs j).st) ∧ w.cell? ⟨b, o + j * 3 + 1, none⟩ = some (.int .i64 (frAt Fs j).sa) ∧
      w.cell? ⟨b, o + j * 3 + 2, none⟩ = some (.slice a' (frAt Fs j).L.length c') ∧ RdF w (.slice a' (frAt Fs j).L.length c') (frAt Fs j).L := by
  obtain ⟨a, c, hv, hc, hz, hr⟩ := h
  refine ⟨a, c, hv, hc, hz, fun j hj => ?_⟩
  have hl := dsF_length Fs
  obtain ⟨b, o, u0, ha, c0, r0⟩ := hr (j * 3 + 0) (by omega)
  obtain ⟨b1, o1, u1, ha1, c1, r1⟩ := hr (j * 3 + 1) (by omega)
  obtain ⟨b2, o2, u2, ha2, c2, r2⟩ := hr (j * 3 + 2) (by omega)
  rw [ha] at ha1 ha2
  cases ha1; cases ha2
  rw [dsF_at Fs j 0 hj (by decide)] at r0
  rw [dsF_at Fs j 1 hj (by decide)] at r1
  rw [dsF_at Fs j 2 hj (by decide)] at r2
  have r0 : u0 = .int .i64 (frAt Fs j).st := r0
  have r1 : u1 = .int .i64 (frAt Fs j).sa := r1
  have r2 : RdF w u2 (frAt Fs j).L := r2
  obtain ⟨a', c', rfl, -⟩ := r2.opened
  subst r0 r1
  exact ⟨b, o, a', c', ha, block_lt c0, c0, c1, c2, r2⟩
def Fsmall (Fs : List FM) : Prop := Fs.length ≤ 1048576 ∧ ∀ j, j < Fs.length → (frAt Fs j).L.length ≤ 1048576

end Go.Proofs.Ytibojlpeaolfbaa
