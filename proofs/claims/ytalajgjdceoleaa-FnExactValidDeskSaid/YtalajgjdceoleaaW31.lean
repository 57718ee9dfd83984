/- Walks: a desk is valid. -/
import Derived.Test.YtalajgjdceoleaaW30
import Derived.Test.YtalajgjdceoleaaBox
namespace Go.Proofs.Ytalajgjdceoleaa
open Go Go.RowKit

def validK (K : KM) : Bool := validG K.G && validT K.T

set_option maxRecDepth 100000 in
set_option maxHeartbeats 800000 in
theorem implValidDesk_any (w : World) (u : Value) (K : KM) (h : RdK w u K) (hs : K.G.small) (ht : K.T.small) :
    Calls Try.prog 19 #[u] w fun e w' => e = .returned (.bool (validK K)) ∧ Below w.heap.size w w' := by
  obtain ⟨v, r, s, vp, vt, rfl, g1, t1⟩ := h
  have hb0 : Below w.heap.size w (w.alloc (.cells #[v, .float .f32 r, .float .f32 s, .int .i64 K.T.t, vp, vt] 34)) := by (repeat (first | exact Below.refl _ _ | (refine Below.drewN ?_ _) | (refine Below.alloc ?_ (by first | exact Nat.le_refl _ | (simp; done) | (simp; omega)) _)))
  go_enter Try.func19, Try.ntmps19
  go_wp2_with fail
  refine (implValidGround_any _ _ K.G (g1.mono hb0) hs).mono ?_
  rintro e1 w1 ⟨rfl, b1⟩
  have hb1 := hb0.trans (b1.mono hb0.size)
  have T1 := t1.mono hb1
  have k0 : w1.cell? ⟨w.heap.size, 3, none⟩ = some (.int .i64 K.T.t) := by rw [(bcell b1).1 _ _ (by simp)]; simp [go_sem]
  have k1 : w1.cell? ⟨w.heap.size, 4, none⟩ = some vp := by rw [(bcell b1).1 _ _ (by simp)]; simp [go_sem]
  have k2 : w1.cell? ⟨w.heap.size, 5, none⟩ = some vt := by rw [(bcell b1).1 _ _ (by simp)]; simp [go_sem]
  cases hv : validG K.G with
  | false =>
    go_wp2
    go_ret
    exact ⟨by unfold validK; rw [hv]; rfl, hb1⟩
  | true =>
    go_wp2_with fail
    refine (implValidGather_any _ _ K.T T1 ht).mono ?_
    rintro e2 w2 ⟨rfl, b2⟩
    go_wp2
    go_ret
    exact ⟨by unfold validK; rw [hv]; rfl, hb1.trans (b2.mono hb1.size)⟩

set_option maxRecDepth 100000 in
set_option maxHeartbeats 800000 in
theorem l08Is_any (w : World) (g : Nat) (v : Value) (r s : Nat) (vp vt : Value) (K : KM) (hB : Box6 w g v (.float .f32 r) (.float .f32 s) (.int .i64 K.T.t) vp vt)
    (h : RdK w (.agg #[v, .float .f32 r, .float .f32 s, .int .i64 K.T.t, vp, vt]) K) (hs : K.G.small) (ht : K.T.small) :
    Calls Try.prog 38 #[.pointer (some ⟨g, 0, none⟩)] w fun e w' => e = .returned (.bool (validK K)) ∧ ∃ m, w' = w.drewN m := by
  obtain ⟨v', r', s', vp', vt', hu, ⟨v2, r2, s2, hu2, l1, f1, f2⟩, vp3, vt3, hu3, p1, q1⟩ := h
  simp only [Value.agg.injEq, Array.mk.injEq, List.cons.injEq, Value.float.injEq, true_and, and_true] at hu hu2 hu3
  obtain ⟨rfl, rfl, rfl, rfl, rfl⟩ := hu
  obtain ⟨rfl, rfl, rfl⟩ := hu2
  obtain ⟨rfl, rfl⟩ := hu3
  obtain ⟨-, c0, c1, c2, c3, c4, c5⟩ := hB
  go_enter Try.func38, Try.ntmps38
  go_wp2_with fail
  refine (l02Is_any w g 0 v r s K.G c0 c1 c2 l1 f1 f2 hs).mono ?_
  rintro e w1 ⟨rfl, m1, rfl⟩
  cases hv : validG K.G with
  | false =>
    go_wp2
    go_ret
    exact ⟨by unfold validK; rw [hv]; rfl, m1, rfl⟩
  | true =>
    go_wp2_with fail
    refine (l04Is_any (w.drewN m1) g 3 K.T.t vp vt K.T.P K.T.Ls c3 c4 c5 (RdF.drewN p1 m1) q1 ht.1 ht.2.1).mono ?_
    rintro e2 w2 ⟨rfl, m2, rfl⟩
    go_wp2
    go_ret
    exact ⟨by unfold validK; rw [hv]; rfl, m1 + m2, by first | rfl | exact World.drewN_drewN _ _ _⟩

set_option maxRecDepth 100000 in
set_option maxHeartbeats 800000 in
theorem specValidDesk_any (w : World) (u : Value) (K : KM) (h : RdK w u K) (hs : K.G.small) (ht : K.T.small) :
    Calls Try.prog 18 #[u] w fun e w' => e = .returned (.bool (validK K)) ∧ Below w.heap.size w w' := by
  have H := Lib.hid h
  obtain ⟨v, r, s, vp, vt, rfl, -, -⟩ := h
  have hb0 : Below w.heap.size w (w.alloc (.cells #[v, .float .f32 r, .float .f32 s, .int .i64 K.T.t, vp, vt] 34)) := by (repeat (first | exact Below.refl _ _ | (refine Below.drewN ?_ _) | (refine Below.alloc ?_ (by first | exact Nat.le_refl _ | (simp; done) | (simp; omega)) _)))
  have B := Box6.of (alloc_new w (.cells #[v, .float .f32 r, .float .f32 s, .int .i64 K.T.t, vp, vt] 34))
  go_enter Try.func18, Try.ntmps18
  go_wp2_with fail
  refine (l08Is_any _ _ v r s vp vt K B (H.out.mono hb0) hs ht).mono ?_
  rintro e w1 ⟨rfl, m, rfl⟩
  go_wp2
  go_ret
  exact ⟨rfl, Below.drewN hb0 m⟩
end Go.Proofs.Ytalajgjdceoleaa
