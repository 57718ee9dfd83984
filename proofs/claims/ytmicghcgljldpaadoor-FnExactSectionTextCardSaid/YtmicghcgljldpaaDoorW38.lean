/- Walks: texts of paths. -/
import Derived.Test.YtmicghcgljldpaaDoorW37
namespace Go.Proofs.YtmicghcgljldpaaDoor
open Go Go.RowKit

/-- A text, if there is one. -/
def txtIf (ok : Bool) (s : ByteArray) : Value := .tuple #[.string (if ok = true then s else ⟨#[]⟩), .bool ok]

set_option maxRecDepth 100000 in
set_option maxHeartbeats 800000 in
theorem specPathText_any (w : World) (u : Value) (x0 x1 x2 x3 : Nat) (h : RdPath u x0 x1 x2 x3) :
    Calls Tryd.prog 7 #[u] w fun e w' => e = .returned (txtIf (allB placeB [x0, x1, x2, x3]) (numT [x0, x1, x2, x3])) ∧ Below w.heap.size w w' := by
  obtain ⟨r0, r1, r2, r3, rfl, f0, f1, f2, f3⟩ := h
  have hb0 : Below w.heap.size w (w.alloc (.cells #[.float .f32 r0, .float .f32 r1, .float .f32 r2, .float .f32 r3] 27)) := by (repeat (first | exact Below.refl _ _ | (refine Below.drewN ?_ _) | (refine Below.alloc ?_ (by first | exact Nat.le_refl _ | (simp; done) | (simp; omega)) _)))
  have hh := alloc_new w (.cells #[.float .f32 r0, .float .f32 r1, .float .f32 r2, .float .f32 r3] 27)
  have c0 := cell_at 0 hh
  have c1 := cell_at 1 hh
  have c2 := cell_at 2 hh
  have c3 := cell_at 3 hh
  go_enter Tryd.func7, Tryd.ntmps7
  go_wp2_with fail
  refine (l06Path_any _ _ r0 r1 r2 r3 x0 x1 x2 x3 c0 c1 c2 c3 f0 f1 f2 f3).mono ?_
  rintro e w1 ⟨rfl, rfl⟩
  cases hp : allB placeB [x0, x1, x2, x3] with
  | false =>
    go_wp2
    go_ret2
    exact ⟨by rw [hp]; rfl, hb0⟩
  | true =>
    go_wp2_with fail
    refine (l08Path_any _ _ r0 r1 r2 r3 x0 x1 x2 x3 c0 c1 c2 c3 f0 f1 f2 f3).mono ?_
    rintro e w1 ⟨rfl, b1⟩
    go_wp2
    go_ret2
    exact ⟨by rw [hp]; rfl, hb0.trans (b1.mono hb0.size)⟩

set_option maxRecDepth 100000 in
set_option maxHeartbeats 800000 in
theorem implPathText_any (w : World) (u : Value) (x0 x1 x2 x3 : Nat) (h : RdPath u x0 x1 x2 x3) (hT : Tab16 w) :
    Calls Tryd.prog 9 #[u] w fun e w' => e = .returned (txtIf (allB placeB [x0, x1, x2, x3]) (numT [x0, x1, x2, x3])) ∧ Below w.heap.size w w' := by
  have h0 := h
  obtain ⟨r0, r1, r2, r3, rfl, f0, f1, f2, f3⟩ := h
  have hb0 : Below w.heap.size w (w.alloc (.cells #[.float .f32 r0, .float .f32 r1, .float .f32 r2, .float .f32 r3] 27)) := by (repeat (first | exact Below.refl _ _ | (refine Below.drewN ?_ _) | (refine Below.alloc ?_ (by first | exact Nat.le_refl _ | (simp; done) | (simp; omega)) _)))
  have hh := alloc_new w (.cells #[.float .f32 r0, .float .f32 r1, .float .f32 r2, .float .f32 r3] 27)
  have hsz : w.heap.size < (w.alloc (.cells #[.float .f32 r0, .float .f32 r1, .float .f32 r2, .float .f32 r3] 27)).heap.size := by rw [World.size_alloc]; omega
  go_enter Tryd.func9, Tryd.ntmps9
  go_wp2_with fail
  generalize w.alloc (.cells #[.float .f32 r0, .float .f32 r1, .float .f32 r2, .float .f32 r3] 27) = w0 at *
  refine (isPath_any w0 _ x0 x1 x2 x3 h0).mono ?_
  rintro e w1 ⟨rfl, b1⟩
  have hb1 := hb0.trans (b1.mono hb0.size)
  cases hp : allB placeB [x0, x1, x2, x3] with
  | false =>
    go_wp2
    go_ret2
    exact ⟨by rw [hp]; rfl, hb1⟩
  | true =>
    have hh1 := (b1.block _ hsz).trans hh
    have c0 : w1.cell? ⟨w.heap.size, 0, none⟩ = some (.float .f32 r0) := cell_at 0 hh1
    have c1 : w1.cell? ⟨w.heap.size, 1, none⟩ = some (.float .f32 r1) := cell_at 1 hh1
    have c2 : w1.cell? ⟨w.heap.size, 2, none⟩ = some (.float .f32 r2) := cell_at 2 hh1
    have c3 : w1.cell? ⟨w.heap.size, 3, none⟩ = some (.float .f32 r3) := cell_at 3 hh1
    have hR := rd4 (alloc_new w1 (.cells #[.float .f32 r0, .float .f32 r1, .float .f32 r2, .float .f32 r3] 22)) f0 f1 f2 f3
    have hb2 : Below w.heap.size w (w1.alloc (.cells #[.float .f32 r0, .float .f32 r1, .float .f32 r2, .float .f32 r3] 22)) := hb1.alloc hb1.size _
    go_wp2_with fail
    refine (numbers_any _ _ [x0, x1, x2, x3] hR (by simp) (hT.mono hb2)).mono ?_
    rintro e w2 ⟨rfl, b2⟩
    go_wp2
    go_ret2
    exact ⟨by rw [hp]; rfl, hb2.trans (b2.mono hb2.size)⟩

set_option maxRecDepth 100000 in
set_option maxHeartbeats 800000 in
theorem toPath_any (w : World) (u : Value) (x0 x1 x2 x3 : Nat) (h : RdPath u x0 x1 x2 x3) :
    Calls Tryd.prog 8 #[u] w fun e w' => ∃ u', e = .returned u' ∧ RdPath u' x0 x1 x2 x3 ∧ Below w.heap.size w w' := by
  have hst := run_store_float (P := Tryd.prog)
  obtain ⟨r0, r1, r2, r3, rfl, f0, f1, f2, f3⟩ := h
  go_enter Tryd.func8, Tryd.ntmps8
  go_wp2
  (try simp only [Exit.inBlock, Exit.then])
  refine bodyPost_ret (v := .agg #[.float .f32 r0, .float .f32 r1, .float .f32 r2, .float .f32 r3]) (by simp [results, Tryd.results8, go_sem]) rfl ?_
  refine ⟨_, rfl, ⟨r0, r1, r2, r3, rfl, f0, f1, f2, f3⟩, ?_⟩
  (repeat (first | exact Below.refl _ _ | (refine Below.drewN ?_ _) | (refine Below.alloc ?_ (by first | exact Nat.le_refl _ | (simp; done) | (simp; omega)) _)))
end Go.Proofs.YtmicghcgljldpaaDoor
