/- Walks: texts of grounds. -/
import Derived.Test.YtmicghcgljldpaaDoorW40
namespace Go.Proofs.YtmicghcgljldpaaDoor
open Go Go.RowKit

set_option maxRecDepth 100000 in
set_option maxHeartbeats 800000 in
theorem groundText_any (w : World) (u : Value) (G : GM) (h : RdG w u G) (hl : 0 < G.n) (hs : G.small) (hT : Tab16 w) :
    Calls Tryd.prog 41 #[u] w fun e w' => e = .returned (.string (groundB G)) ∧ Below w.heap.size w w' := by
  obtain ⟨v, r, s, rfl, l1, f1, f2⟩ := h
  have hb0 : Below w.heap.size w (w.alloc (.cells #[v, .float .f32 r, .float .f32 s] 46)) := by (repeat (first | exact Below.refl _ _ | (refine Below.drewN ?_ _) | (refine Below.alloc ?_ (by first | exact Nat.le_refl _ | (simp; done) | (simp; omega)) _)))
  have hh := alloc_new w (.cells #[v, .float .f32 r, .float .f32 s] 46)
  have hsz : w.heap.size < (w.alloc (.cells #[v, .float .f32 r, .float .f32 s] 46)).heap.size := by rw [World.size_alloc]; omega
  go_enter Tryd.func41, Tryd.ntmps41
  go_wp2_with fail
  generalize w.alloc (.cells #[v, .float .f32 r, .float .f32 s] 46) = w0 at *
  refine (joinedLay_any w0 v G.n G.L (l1.mono hb0) hl hs (hT.mono hb0)).mono ?_
  rintro e w1 ⟨rfl, b1⟩
  have hb1 := hb0.trans (b1.mono hb0.size)
  obtain ⟨-, c1, c2, -, -, -⟩ := blk3 ((b1.block _ hsz).trans hh)
  have hlen := rowsT_length (layB G.L) 47 G.n 35 fun i _ => Nat.le_of_eq (layB_length G.L i)
  have hmul : G.n * 36 ≤ 1048576 * 36 := Nat.mul_le_mul_right _ hs
  obtain ⟨S, hS⟩ : ∃ S : ByteArray, (⟨(rowsT (layB G.L) 47 G.n).toArray⟩ : ByteArray) = S := ⟨_, rfl⟩
  have hSs : S.size ≤ 37748736 := by
    rw [← hS]
    show (rowsT (layB G.L) 47 G.n).toArray.size ≤ _
    rw [List.size_toArray]
    omega
  have hE := ground_append G
  rw [hS] at hE ⊢
  have HE := Lib.hid hE
  have hN : (numT [G.s, G.d]).size = 17 := by
    have := txt_length [G.s, G.d] 2 (by decide) (by simp)
    rw [numT_cons (by simp)]
    show (txt [G.s, G.d] 2).toArray.size = 17
    rw [List.size_toArray]
    omega
  have hR := rd2 (alloc_new w1 (.cells #[.float .f32 r, .float .f32 s] 22)) f1 f2
  have hb2 : Below w.heap.size w (w1.alloc (.cells #[.float .f32 r, .float .f32 s] 22)) := hb1.alloc hb1.size _
  clear hS hE hlen hmul hh
  go_wp2_with fail
  refine (numbers_any _ _ [G.s, G.d] hR (by simp) (hT.mono hb2)).mono ?_
  rintro e w2 ⟨rfl, b2⟩
  clear c1 c2
  go_wp2
  go_ret
  exact ⟨by rw [← HE.out]; rfl, hb2.trans (b2.mono hb2.size)⟩

set_option maxRecDepth 100000 in
set_option maxHeartbeats 800000 in
theorem implGroundText_any (w : World) (u : Value) (G : GM) (h : RdG w u G) (hs : G.small) (hT : Tab16 w) :
    Calls Tryd.prog 18 #[u] w fun e w' => e = .returned (txtIf (validG G) (groundB G)) ∧ Below w.heap.size w w' := by
  have H := Lib.hid h
  obtain ⟨v, r, s, rfl, -, -, -⟩ := h
  have hb0 : Below w.heap.size w (w.alloc (.cells #[v, .float .f32 r, .float .f32 s] 46)) := by (repeat (first | exact Below.refl _ _ | (refine Below.drewN ?_ _) | (refine Below.alloc ?_ (by first | exact Nat.le_refl _ | (simp; done) | (simp; omega)) _)))
  have hh := alloc_new w (.cells #[v, .float .f32 r, .float .f32 s] 46)
  have hsz : w.heap.size < (w.alloc (.cells #[v, .float .f32 r, .float .f32 s] 46)).heap.size := by rw [World.size_alloc]; omega
  go_enter Tryd.func18, Tryd.ntmps18
  go_wp2_with fail
  generalize w.alloc (.cells #[v, .float .f32 r, .float .f32 s] 46) = w0 at *
  refine (implValidGround_any w0 _ G (H.out.mono hb0) hs).mono ?_
  rintro e w1 ⟨rfl, b1⟩
  have hb1 := hb0.trans (b1.mono hb0.size)
  obtain ⟨c0, c1, c2, -, -, -⟩ := blk3 ((b1.block _ hsz).trans hh)
  cases hp : validG G with
  | false =>
    go_wp2
    go_ret2
    exact ⟨by rw [hp]; rfl, hb1⟩
  | true =>
    have hl : 0 < G.n := by
      unfold validG at hp
      simp only [Bool.and_eq_true, decide_eq_true_eq] at hp
      omega
    go_wp2_with fail
    refine (groundText_any w1 _ G (H.out.mono hb1) hl hs (hT.mono hb1)).mono ?_
    rintro e w2 ⟨rfl, b2⟩
    go_wp2
    go_ret2
    exact ⟨by rw [hp]; rfl, hb1.trans (b2.mono hb1.size)⟩

set_option maxRecDepth 100000 in
set_option maxHeartbeats 800000 in
theorem specGroundText_any (w : World) (u : Value) (G : GM) (h : RdG w u G) (hs : G.small) :
    Calls Tryd.prog 16 #[u] w fun e w' => e = .returned (txtIf (validG G) (groundB G)) ∧ Below w.heap.size w w' := by
  obtain ⟨v, r, s, rfl, l1, f1, f2⟩ := h
  have hb0 : Below w.heap.size w (w.alloc (.cells #[v, .float .f32 r, .float .f32 s] 46)) := by (repeat (first | exact Below.refl _ _ | (refine Below.drewN ?_ _) | (refine Below.alloc ?_ (by first | exact Nat.le_refl _ | (simp; done) | (simp; omega)) _)))
  obtain ⟨c0, c1, c2, -, -, -⟩ := blk3 (alloc_new w (.cells #[v, .float .f32 r, .float .f32 s] 46))
  go_enter Tryd.func16, Tryd.ntmps16
  go_wp2_with fail
  generalize w.alloc (.cells #[v, .float .f32 r, .float .f32 s] 46) = w0 at *
  refine (l02Is_any w0 w.heap.size 0 v r s G c0 c1 c2 (l1.mono hb0) f1 f2 hs).mono ?_
  rintro e w1 ⟨rfl, m, hw1⟩
  have hb1 : Below w.heap.size w w1 := by rw [hw1]; exact Below.drewN hb0 m
  have d0 : w1.cell? ⟨w.heap.size, 0, none⟩ = some v := by rw [hw1]; exact c0
  have d1 : w1.cell? ⟨w.heap.size, 1, none⟩ = some (.float .f32 r) := by rw [hw1]; exact c1
  have d2 : w1.cell? ⟨w.heap.size, 2, none⟩ = some (.float .f32 s) := by rw [hw1]; exact c2
  clear hw1 c0 c1 c2
  cases hp : validG G with
  | false =>
    go_wp2
    go_ret2
    exact ⟨by rw [hp]; rfl, hb1⟩
  | true =>
    go_wp2_with fail
    refine (l08Ground_any w1 w.heap.size v r s G d0 d1 d2 (l1.mono hb1) f1 f2 hs).mono ?_
    rintro e w2 ⟨rfl, b2⟩
    go_wp2
    go_ret2
    exact ⟨by rw [hp]; rfl, hb1.trans (b2.mono hb1.size)⟩
end Go.Proofs.YtmicghcgljldpaaDoor
