/- Walks: SpikeFilter, of the program and of the reference. -/
import Derived.Test.YtiappmhlmephjaaW10
namespace Go.Proofs.Ytiappmhlmephjaa
open Go Go.RowKit

def spikeM (A : List Nat) (n : Int) (x : Nat) : Option (List Nat) := shapeM A [1065353216] n x
theorem spikeM_length (A : List Nat) (n : Int) (x : Nat) : ((spikeM A n x).getD []).length ≤ 25 := shapeM_length A _ n x

set_option maxRecDepth 100000 in
theorem implSpikeFilter_any (w : World) (va : Value) (A : List Nat) (n : Int) (r x : Nat) (hA : RdF w va A) (hr : FV .f32 r x) (hmA : A.length ≤ 1048576) :
    Calls Try.prog 23 #[va, .int .i64 n, .float .f32 r] w (RetF w (spikeM A n x)) := by
  have hb : Below w.heap.size w (w.alloc (.cells #[.float .f32 1065353216] 23)) := (Below.refl _ _).alloc (Nat.le_refl _) _
  have h1 : OwnF (w.alloc (.cells #[.float .f32 1065353216] 23)) w.heap.size (.slice (some ⟨w.heap.size, 0, none⟩) 1 1) [1065353216] := OwnF.one (Nat.le_refl _) fvone
  have hA1 := hA.mono hb
  go_enter Try.func23, Try.ntmps23
  go_wp2_with fail
  refine (implShapeFilter_any _ _ _ A [1065353216] n _ x hA1 h1.rd hr hmA (by simp)).mono ?_
  rintro e w1 ⟨v, ok, rfl, h1, h2⟩
  have hs := hb.size
  go_wp2
  go_ret2
  exact RetF.mk (h1.lower hs) (hb.trans (h2.mono hs))

set_option maxRecDepth 100000 in
theorem specSpikeFilter_any (w : World) (va : Value) (A : List Nat) (n : Int) (r x : Nat) (hA : RdF w va A) (hr : FV .f32 r x) (hmA : A.length ≤ 1048576) :
    Calls Try.prog 22 #[va, .int .i64 n, .float .f32 r] w (RetF w (spikeM A n x)) := by
  have hb : Below w.heap.size w (w.alloc (.cells #[.float .f32 1065353216] 23)) := (Below.refl _ _).alloc (Nat.le_refl _) _
  have h1 : OwnF (w.alloc (.cells #[.float .f32 1065353216] 23)) w.heap.size (.slice (some ⟨w.heap.size, 0, none⟩) 1 1) [1065353216] := OwnF.one (Nat.le_refl _) fvone
  have hA1 := hA.mono hb
  go_enter Try.func22, Try.ntmps22
  go_wp2_with fail
  refine (l05Shape_any _ _ _ A [1065353216] n _ x hA1 h1.rd hr hmA (by simp)).mono ?_
  rintro e w1 ⟨v, ok, rfl, h1, h2⟩
  have hs := hb.size
  go_wp2
  go_ret2
  exact RetF.mk (h1.lower hs) (hb.trans (h2.mono hs))
end Go.Proofs.Ytiappmhlmephjaa
