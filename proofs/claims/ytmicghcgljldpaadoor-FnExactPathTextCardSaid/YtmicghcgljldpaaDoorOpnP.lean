/- Paths that came in. -/
import Derived.Test.YtmicghcgljldpaaDoorOpnK
import Derived.Test.YtmicghcgljldpaaDoorW37
namespace Go.Proofs.YtmicghcgljldpaaDoor
open Go.ChangeShapes Go.WideShapes Go.ChangeAt Go.RowKit Go.Deep
section
variable {H : Type} {enc : TypeId × Value → H} {w : World} {base : Nat} {spare : Nat → Bool} {held : Bool}
set_option maxRecDepth 100000 in
theorem open_path {r : Reach} {b0 : Nat} {v : Value} {d : DataW H} {p : List MemPlace} (hv : Value.okWide Tryd.prog w r b0 24 v) (h : DataW.Trod enc Tryd.prog w base spare held 24 v d p) :
    ∃ x0 x1 x2 x3, RdPath v x0 x1 x2 x3 := by
  obtain ⟨cs, rfl, hsz⟩ := okWide_struct Tryd.underlying24 hv
  have hC : Tryd.prog.cellsOf 24 = 4 := by kernel_rfl
  have h1 : Tryd.prog.cellsOf 22 = 1 := by kernel_rfl
  obtain ⟨l⟩ := cs
  match l, hsz.trans hC with
  | [c0, c1, c2, c3], _ =>
    obtain ⟨fuel, hf⟩ := h
    obtain ⟨_, _, g0⟩ := trod_field Tryd.underlying24 hf 0 22 0 1 rfl h1
    obtain ⟨_, _, g1⟩ := trod_field Tryd.underlying24 hf 1 22 1 1 rfl h1
    obtain ⟨_, _, g2⟩ := trod_field Tryd.underlying24 hf 2 22 2 1 rfl h1
    obtain ⟨_, _, g3⟩ := trod_field Tryd.underlying24 hf 3 22 3 1 rfl h1
    obtain ⟨b0, rfl, f0⟩ := trodF32 (v := c0) g0
    obtain ⟨b1, rfl, f1⟩ := trodF32 (v := c1) g1
    obtain ⟨b2, rfl, f2⟩ := trodF32 (v := c2) g2
    obtain ⟨b3, rfl, f3⟩ := trodF32 (v := c3) g3
    exact ⟨_, _, _, _, b0, b1, b2, b3, rfl, f0, f1, f2, f3⟩
end
end Go.Proofs.YtmicghcgljldpaaDoor
