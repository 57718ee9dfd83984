/- FnExactPathText: the walk of the law. -/
import Derived.Test.YtmicghcgljldpaaDoorW38
import Derived.Test.YtmicghcgljldpaaDoorTru
namespace Go.Proofs.YtmicghcgljldpaaDoor
open Go Go.RowKit

set_option maxRecDepth 100000 in
set_option maxHeartbeats 4000000 in
theorem lawPathText_any (w : World) (u : Value) (x0 x1 x2 x3 : Nat) (h : RdPath u x0 x1 x2 x3) (hT : Tab16 w) :
    Calls Tryd.prog 3 #[u] w (TrueB w) := by
  have h0 := h
  obtain ⟨r0, r1, r2, r3, rfl, -⟩ := h
  have hb0 : Below w.heap.size w (w.alloc (.cells #[.float .f32 r0, .float .f32 r1, .float .f32 r2, .float .f32 r3] 24)) := by (repeat (first | exact Below.refl _ _ | (refine Below.drewN ?_ _) | (refine Below.alloc ?_ (by first | exact Nat.le_refl _ | (simp; done) | (simp; omega)) _)))
  have hh := alloc_new w (.cells #[.float .f32 r0, .float .f32 r1, .float .f32 r2, .float .f32 r3] 24)
  have hsz : w.heap.size < (w.alloc (.cells #[.float .f32 r0, .float .f32 r1, .float .f32 r2, .float .f32 r3] 24)).heap.size := by rw [World.size_alloc]; omega
  go_enter Tryd.func3, Tryd.ntmps3
  go_wp2_with fail
  generalize w.alloc (.cells #[.float .f32 r0, .float .f32 r1, .float .f32 r2, .float .f32 r3] 24) = w0 at *
  refine (toPath_any w0 _ x0 x1 x2 x3 h0).mono ?_
  rintro e w1 ⟨u1, rfl, p1, b1⟩
  have hb1 := hb0.trans (b1.mono hb0.size)
  have s1 := b1.size
  have hh1 := (b1.block _ hsz).trans hh
  go_wp2_with fail
  refine (specPathText_any w1 _ x0 x1 x2 x3 p1).mono ?_
  rintro e w2 ⟨rfl, b2⟩
  have hb2 := hb1.trans (b2.mono hb1.size)
  have s2 := b2.size
  have hh2 := (b2.block _ (by omega)).trans hh1
  obtain ⟨S, hS⟩ : ∃ S : ByteArray, (if allB placeB [x0, x1, x2, x3] = true then numT [x0, x1, x2, x3] else ⟨#[]⟩) = S := ⟨_, rfl⟩
  have e1 : txtIf (allB placeB [x0, x1, x2, x3]) (numT [x0, x1, x2, x3]) = .tuple #[.string S, .bool (allB placeB [x0, x1, x2, x3])] := by unfold txtIf; rw [hS]
  have E1 := Lib.hid e1
  rw [e1]
  clear e1 hS
  have c0 : w2.cell? ⟨w.heap.size, 0, none⟩ = some (.float .f32 r0) := cell_at 0 hh2
  have c1 : w2.cell? ⟨w.heap.size, 1, none⟩ = some (.float .f32 r1) := cell_at 1 hh2
  have c2 : w2.cell? ⟨w.heap.size, 2, none⟩ = some (.float .f32 r2) := cell_at 2 hh2
  have c3 : w2.cell? ⟨w.heap.size, 3, none⟩ = some (.float .f32 r3) := cell_at 3 hh2
  go_wp2_with fail
  refine (toPath_any w2 _ x0 x1 x2 x3 h0).mono ?_
  rintro e w3 ⟨u3, rfl, p3, b3⟩
  have hb3 := hb2.trans (b3.mono hb2.size)
  clear c0 c1 c2 c3
  go_wp2_with fail
  refine (implPathText_any w3 _ x0 x1 x2 x3 p3 (hT.mono hb3)).mono ?_
  rintro e w4 ⟨rfl, b4⟩
  rw [E1.out]
  go_wp2
  go_ret
  exact TrueB.mk (hb3.trans (b4.mono hb3.size))
end Go.Proofs.YtmicghcgljldpaaDoor
