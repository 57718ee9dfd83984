/- Walks: the beginning and a step of the recursion. -/
import Derived.Test.YtiappmhlmephjaaW1
import Derived.Test.YtiappmhlmephjaaW2
namespace Go.Proofs.Ytiappmhlmephjaa
open Go Go.RowKit

/-- 1 in 32 bits. -/
theorem fv1 : FV .f32 1065353216 1065353216 := ⟨by decide, by decide +kernel⟩
/-- The recursion lies at block px: the list it was begun with, its p, its e. -/
def Rec (w : World) (B px : Nat) (va : Value) (P : List Nat) (E : Nat) : Prop :=
  ∃ vp e, w.heap[px]? = some (.cells #[va, vp, .float .f32 e] 83 (0, 0)) ∧ OwnF w B vp P ∧ FV .f32 e E

set_option maxRecDepth 100000 in
set_option maxHeartbeats 400000 in
theorem begin_any (w : World) (va : Value) (A : List Nat) (hA : RdF w va A) (hl : 0 < A.length) (hmax : A.length ≤ 1000) :
    Calls Try.prog 69 #[va] w fun e w' => ∃ px, e = .returned (.pointer (some ⟨px, 0, none⟩)) ∧ w.heap.size ≤ px ∧ Rec w' w.heap.size px va [1065353216] (A.getD 0 0) ∧ Below w.heap.size w w' := by
  obtain ⟨b, o, c, rfl, hc, hb, hcell⟩ := hA.at_block hl
  obtain ⟨r, c1, f1⟩ := hcell 0 hl
  rw [Nat.add_zero] at c1
  go_enter Try.func69, Try.ntmps69
  go_wp2
  go_ret
  refine ⟨_, rfl, by omega, ⟨_, _, ?_, (OwnF.one (Nat.le_refl _) fv1).alloc _, f1⟩, ((Below.refl _ _).alloc (Nat.le_refl _) _).alloc (by simp) _⟩
  have := heap_alloc_new (w.alloc (Obj.cells #[Value.float FloatKind.f32 1065353216] 23)) (Obj.cells #[Value.slice (some ⟨b, o, none⟩) A.length c, Value.slice (some ⟨w.heap.size, 0, none⟩) 1 1, Value.float FloatKind.f32 r] 83)
  rw [World.size_alloc] at this
  exact this

/-- A slice of floats and the recursion lie in different blocks. -/
theorem OwnF.ne_rec {w : World} {B B' px : Nat} {v va : Value} {L P : List Nat} {E : Nat} (h : OwnF w B v L) (hr : Rec w B' px va P E) : v.ownBlock ≠ some px := by
  obtain ⟨vp, e, hp, _, _⟩ := hr
  intro hv
  obtain ⟨bits, _, _, hown⟩ := h
  rcases hown.2 with ⟨rfl, _⟩ | ⟨g, cap, cur, rfl, _, hg, _⟩
  · simp [Value.ownBlock] at hv
  · simp only [Value.ownBlock, Option.some.injEq] at hv
    subst hv
    rw [hp] at hg
    simp at hg
def gt0 (x : Nat) : Bool := FloatKind.f32.format.order x 0 == some .gt
theorem FV.gt0 {r x : Nat} (h : FV .f32 r x) : (FloatKind.f32.format.order r 0 == some Ordering.gt) = Proofs.Ytiappmhlmephjaa.gt0 x := by
  rw [h.order (fv0 _)]; rfl
theorem Rec.cells {w : World} {B px : Nat} {va : Value} {P : List Nat} {E : Nat} (h : Rec w B px va P E) :
    ∃ vp e, w.cell? ⟨px, 0, none⟩ = some va ∧ w.cell? ⟨px, 1, none⟩ = some vp ∧ w.cell? ⟨px, 2, none⟩ = some (.float .f32 e) ∧ (∀ j, w.frozen? ⟨px, j, none⟩ = false) ∧ OwnF w B vp P ∧ FV .f32 e E ∧ vp.ownBlock ≠ some px ∧ px < w.heap.size ∧ w.heap[px]? = some (.cells #[va, vp, .float .f32 e] 83 (0, 0)) := by
  obtain ⟨vp, e, hp, ho, he⟩ := h
  refine ⟨vp, e, cell_of_row w px 0 _ _ (0, 0) hp, cell_of_row w px 1 _ _ (0, 0) hp, cell_of_row w px 2 _ _ (0, 0) hp, fun j => frozen_of_row w px j _ _ hp, ho, he, ?_, (Array.getElem?_eq_some_iff.1 hp).1, hp⟩
  intro hvp
  obtain ⟨bits, _, _, hown⟩ := ho
  rcases hown.2 with ⟨rfl, _⟩ | ⟨g, cap, cur, rfl, _, hg, _⟩
  · simp [Value.ownBlock] at hvp
  · simp only [Value.ownBlock, Option.some.injEq] at hvp
    subst hvp
    rw [hp] at hg
    simp at hg


theorem Rec.keptBy {w w' : World} {B px : Nat} {va : Value} {P : List Nat} {E : Nat} {row : Option Nat} (h : Rec w B px va P E) (hg : w.grownBy w' row) (hne : some px ≠ row) (hp : ∀ vp, w.cell? ⟨px, 1, none⟩ = some vp → vp.ownBlock ≠ row) : Rec w' B px va P E := by
  obtain ⟨vp, e, hp', ho, he⟩ := h
  refine ⟨vp, e, ?_, ho.keptBy hg (hp vp (cell_of_row w px 1 _ _ (0, 0) hp')), he⟩
  rw [hg.block px (Array.getElem?_eq_some_iff.1 hp').1 hne]; exact hp'
theorem Rec.kept {w w' : World} {B px : Nat} {va : Value} {P : List Nat} {E : Nat} (h : Rec w B px va P E) (hb : Below w.heap.size w w') : Rec w' B px va P E := by
  obtain ⟨vp, e, hp', ho, he⟩ := h
  exact ⟨vp, e, (hb.block px (Array.getElem?_eq_some_iff.1 hp').1).trans hp', ho.kept hb, he⟩

def stepC (A P : List Nat) (E : Nat) : Nat := fop .quo .f32 (againstM A P) E
def stepE (A P : List Nat) (E : Nat) : Nat := fop .sub .f32 E (fop .mul .f32 (stepC A P E) (againstM A P))

set_option maxRecDepth 100000 in
set_option maxHeartbeats 1000000 in
theorem next_any (w : World) (B px : Nat) (va : Value) (A P : List Nat) (E : Nat) (hr : Rec w B px va P E) (hA : RdF w va A) (hlen : P.length < A.length) (hmax : A.length ≤ 1000) (hE : gt0 E = true) :
    Calls Try.prog 70 #[.pointer (some ⟨px, 0, none⟩)] w fun e w' => ∃ r, e = .returned (.tuple #[.float .f32 r, .bool true]) ∧ FV .f32 r (stepC A P E) ∧ Rec w' w.heap.size px va (extM P (stepC A P E)) (stepE A P E) ∧ w.grownBy w' (some px) := by
  have hsub := run_fsub (P := Try.prog)
  have hmul := run_fmul (P := Try.prog)
  have hquo := run_fquo (P := Try.prog)
  have hst := run_store_float (P := Try.prog)
  obtain ⟨vp, e, c0, c1, c2, hfr, ho, fe, hvp, hpx, hblk⟩ := hr.cells
  have hgt := fe.gt0
  rw [hE] at hgt
  have hfr1 := hfr 1
  have hfr2 := hfr 2
  have hrd := ho.rd
  clear hr hfr
  go_enter Try.func70, Try.ntmps70
  go_wp2_with fail
  refine (against_any w px va vp A P c0 hA hrd hlen hmax).mono ?_
  rintro e1 w1 ⟨r1, n1, rfl, f1, rfl⟩
  go_wp2_with fail
  refine (extended_any _ vp P _ (stepC A P E) (RdF.drewN hrd _) (FV.op f1 fe _) (by omega)).mono ?_
  rintro e2 w2 ⟨v2, rfl, h2, hb2⟩
  replace h2 : OwnF w2 w.heap.size v2 (extM P (stepC A P E)) := h2
  replace hb2 : Below w.heap.size w w2 := ⟨hb2.os, hb2.tape, hb2.output, hb2.size, hb2.block⟩
  have h2' := h2
  obtain ⟨g2, cap2, rfl, hg2, hg2b, hcap2, -, -⟩ := h2'.at_block (n := P.length + 1) (extM_length _ _) (by omega)
  have d1 : w2.cell? ⟨px, 1, none⟩ = some vp := ((bcell hb2).1 _ _ hpx).trans c1
  have d2 : w2.cell? ⟨px, 2, none⟩ = some (.float .f32 e) := ((bcell hb2).1 _ _ hpx).trans c2
  have d3 : w2.frozen? ⟨px, 1, none⟩ = false := ((bcell hb2).2 _ _ hpx).trans hfr1
  have d4 : w2.frozen? ⟨px, 2, none⟩ = false := ((bcell hb2).2 _ _ hpx).trans hfr2
  clear c0 c1 c2 hfr1 hfr2 h2'
  go_wp2
  go_ret2
  have k0 : w2.heap[px]? = some (.cells #[va, vp, .float .f32 e] 83 (0, 0)) := (hb2.block px hpx).trans hblk
  have k1 := heap_setCell_same w2 px 1 _ _ (.slice (some ⟨g2, 0, none⟩) (P.length + 1) cap2) k0
  have hne : (Value.slice (some ⟨g2, 0, none⟩) (P.length + 1) cap2).ownBlock ≠ some px := by simp [Value.ownBlock]; omega
  have o1 := h2.keptBy (grownBy_setCell w2 px 1 (.slice (some ⟨g2, 0, none⟩) (P.length + 1) cap2)) hne
  refine ⟨_, rfl, FV.op f1 fe _, ⟨_, _, heap_setCell_same _ px 2 _ _ _ k1, o1.keptBy (grownBy_trans (grownBy_drewN _ _ _) (grownBy_setCell _ px 2 _)) hne, FV.op fe (FV.op (FV.op f1 fe _) f1 _) _⟩, ?_⟩
  exact grownBy_trans (grownBy_trans (grownBy_of_below hb2 _) (grownBy_setCell w2 px 1 _)) (grownBy_trans (grownBy_drewN _ _ _) (grownBy_setCell _ px 2 _))
end Go.Proofs.Ytiappmhlmephjaa
