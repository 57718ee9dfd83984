/- Walks: SameGround and SameDesk of the program. -/
import Derived.Test.YtalajgjdceoleaaW21
namespace Go.Proofs.Ytalajgjdceoleaa
open Go Go.RowKit

def sameG (F G : GM) : Bool := (F.s == G.s) && ((F.d == G.d) && sameLL F.n F.L G.n G.L)
def sameK (F G : KM) : Bool := sameG F.G G.G && sameT F.T G.T

set_option maxRecDepth 100000 in
set_option maxHeartbeats 800000 in
theorem implSameGround_any (w : World) (u1 u2 : Value) (F G : GM) (h1 : RdG w u1 F) (h2 : RdG w u2 G) (hs : F.small) (ht : G.small) :
    Calls Try.prog 36 #[u1, u2] w fun e w' => e = .returned (.bool (sameG F G)) ∧ Below w.heap.size w w' := by
  obtain ⟨v, r, s, rfl, l1, f1, f2⟩ := h1
  obtain ⟨v', r', s', rfl, l2, f3, f4⟩ := h2
  have hb0 : Below w.heap.size w ((w.alloc (.cells #[v, .float .f32 r, .float .f32 s] 28)).alloc (.cells #[v', .float .f32 r', .float .f32 s'] 28)) := by (repeat (first | exact Below.refl _ _ | (refine Below.drewN ?_ _) | (refine Below.alloc ?_ (by first | exact Nat.le_refl _ | (simp; done) | (simp; omega)) _)))
  go_enter Try.func36, Try.ntmps36
  go_wp2_with fail
  refine (sameNumber_any _ r r' _ _ f1 f3).mono ?_
  rintro e w1 ⟨rfl, rfl⟩
  cases q1 : (F.s == G.s) with
  | false =>
    go_wp2
    go_ret
    exact ⟨by unfold sameG; rw [q1]; rfl, hb0⟩
  | true =>
    go_wp2_with fail
    refine (sameNumber_any _ s s' _ _ f2 f4).mono ?_
    rintro e w1 ⟨rfl, rfl⟩
    cases q2 : (F.d == G.d) with
    | false =>
      go_wp2
      go_ret
      exact ⟨by unfold sameG; rw [q1, q2]; rfl, hb0⟩
    | true =>
      go_wp2_with fail
      refine (equalLay_any _ _ _ F.n G.n F.L G.L (l1.mono hb0) (l2.mono hb0) hs ht).mono ?_
      rintro e w1 ⟨rfl, b1⟩
      go_wp2
      go_ret
      exact ⟨by unfold sameG; rw [q1, q2]; rfl, hb0.trans (b1.mono hb0.size)⟩

set_option maxRecDepth 100000 in
set_option maxHeartbeats 800000 in
theorem implSameDesk_any (w : World) (u1 u2 : Value) (F G : KM) (h1 : RdK w u1 F) (h2 : RdK w u2 G) (hs : F.G.small) (ht : G.G.small) (hs2 : F.T.small) (ht2 : G.T.small) :
    Calls Try.prog 17 #[u1, u2] w fun e w' => e = .returned (.bool (sameK F G)) ∧ Below w.heap.size w w' := by
  obtain ⟨v, r, s, vp, vt, rfl, g1, t1⟩ := h1
  obtain ⟨v', r', s', vp', vt', rfl, g2, t2⟩ := h2
  have hb0 : Below w.heap.size w ((w.alloc (.cells #[v, .float .f32 r, .float .f32 s, .int .i64 F.T.t, vp, vt] 34)).alloc (.cells #[v', .float .f32 r', .float .f32 s', .int .i64 G.T.t, vp', vt'] 34)) := by (repeat (first | exact Below.refl _ _ | (refine Below.drewN ?_ _) | (refine Below.alloc ?_ (by first | exact Nat.le_refl _ | (simp; done) | (simp; omega)) _)))
  go_enter Try.func17, Try.ntmps17
  go_wp2_with fail
  refine (implSameGround_any _ _ _ F.G G.G (g1.mono hb0) (g2.mono hb0) hs ht).mono ?_
  rintro e1 w1 ⟨rfl, b1⟩
  have hb1 := hb0.trans (b1.mono hb0.size)
  have T1 := t1.mono hb1
  have T2 := t2.mono hb1
  have k0 : w1.cell? ⟨w.heap.size, 3, none⟩ = some (.int .i64 F.T.t) := by rw [(bcell b1).1 _ _ (by simp; omega)]; simp [go_sem]
  have k1 : w1.cell? ⟨w.heap.size, 4, none⟩ = some vp := by rw [(bcell b1).1 _ _ (by simp; omega)]; simp [go_sem]
  have k2 : w1.cell? ⟨w.heap.size, 5, none⟩ = some vt := by rw [(bcell b1).1 _ _ (by simp; omega)]; simp [go_sem]
  have k3 : w1.cell? ⟨w.heap.size + 1, 3, none⟩ = some (.int .i64 G.T.t) := by rw [(bcell b1).1 _ _ (by simp)]; simp [go_sem]
  have k4 : w1.cell? ⟨w.heap.size + 1, 4, none⟩ = some vp' := by rw [(bcell b1).1 _ _ (by simp)]; simp [go_sem]
  have k5 : w1.cell? ⟨w.heap.size + 1, 5, none⟩ = some vt' := by rw [(bcell b1).1 _ _ (by simp)]; simp [go_sem]
  cases q1 : sameG F.G G.G with
  | false =>
    go_wp2
    go_ret
    exact ⟨by unfold sameK; rw [q1]; rfl, hb1⟩
  | true =>
    go_wp2_with fail
    refine (implSameGather_any _ _ _ F.T G.T T1 T2 hs2 ht2).mono ?_
    rintro e2 w2 ⟨rfl, b2⟩
    go_wp2
    go_ret
    exact ⟨by unfold sameK; rw [q1]; rfl, hb1.trans (b2.mono hb1.size)⟩
end Go.Proofs.Ytalajgjdceoleaa
