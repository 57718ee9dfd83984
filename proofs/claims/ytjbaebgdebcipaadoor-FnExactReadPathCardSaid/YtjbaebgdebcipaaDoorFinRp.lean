/- FnExactReadPath: the walk of the law. -/
import Derived.Test.YtjbaebgdebcipaaDoorRpS
import Derived.Test.YtjbaebgdebcipaaDoorSame
import Derived.Test.YtjbaebgdebcipaaDoorTru
namespace Go.Proofs.YtjbaebgdebcipaaDoor
open Go Go.RowKit

set_option maxRecDepth 100000 in
set_option maxHeartbeats 1600000 in
theorem eqPath_any (w : World) (p q : Value) (x0 x1 x2 x3 : Nat) (h1 : RdPath p x0 x1 x2 x3) (h2 : RdPath q x0 x1 x2 x3) :
    Calls Tryd.prog 6 #[p, q] w fun e w' => e = .returned (.bool true) ∧ Below w.heap.size w w' := by
  have hcv := run_widen (P := Tryd.prog) 22 37 isF32 isF64
  obtain ⟨r0, r1, r2, r3, rfl, a0, a1, a2, a3⟩ := h1
  obtain ⟨s0, s1, s2, s3, rfl, b0, b1, b2, b3⟩ := h2
  have HS0 : Hid (∀ wq w1 w2, Calls Tryd.prog 11 #[.float .f64 (cres r0 w1), .float .f64 (cres s0 w2)] wq fun e w' => e = .returned (.bool true) ∧ ∃ n, w' = wq.drewN n) := Lib.hid fun wq w1 w2 => sameFloat_any wq _ _ _ (a0.wide w1) (b0.wide w2)
  have HS1 : Hid (∀ wq w1 w2, Calls Tryd.prog 11 #[.float .f64 (cres r1 w1), .float .f64 (cres s1 w2)] wq fun e w' => e = .returned (.bool true) ∧ ∃ n, w' = wq.drewN n) := Lib.hid fun wq w1 w2 => sameFloat_any wq _ _ _ (a1.wide w1) (b1.wide w2)
  have HS2 : Hid (∀ wq w1 w2, Calls Tryd.prog 11 #[.float .f64 (cres r2 w1), .float .f64 (cres s2 w2)] wq fun e w' => e = .returned (.bool true) ∧ ∃ n, w' = wq.drewN n) := Lib.hid fun wq w1 w2 => sameFloat_any wq _ _ _ (a2.wide w1) (b2.wide w2)
  have HS3 : Hid (∀ wq w1 w2, Calls Tryd.prog 11 #[.float .f64 (cres r3 w1), .float .f64 (cres s3 w2)] wq fun e w' => e = .returned (.bool true) ∧ ∃ n, w' = wq.drewN n) := Lib.hid fun wq w1 w2 => sameFloat_any wq _ _ _ (a3.wide w1) (b3.wide w2)
  clear a0 a1 a2 a3 b0 b1 b2 b3
  have X0 : Hid (Below w.heap.size w ((w.alloc (.cells #[.float .f32 r0, .float .f32 r1, .float .f32 r2, .float .f32 r3] 24)).alloc (.cells #[.float .f32 s0, .float .f32 s1, .float .f32 s2, .float .f32 s3] 24))) := Lib.hid (((Below.refl _ _).alloc (Nat.le_refl _) _).alloc (by rw [World.size_alloc]; omega) _)
  obtain ⟨g0, g1⟩ := heap2 w (.cells #[.float .f32 r0, .float .f32 r1, .float .f32 r2, .float .f32 r3] 24) (.cells #[.float .f32 s0, .float .f32 s1, .float .f32 s2, .float .f32 s3] 24)
  go_enter Tryd.func6, Tryd.ntmps6
  obtain ⟨W, hW⟩ : ∃ W, ((w.alloc (.cells #[.float .f32 r0, .float .f32 r1, .float .f32 r2, .float .f32 r3] 24)).alloc (.cells #[.float .f32 s0, .float .f32 s1, .float .f32 s2, .float .f32 s3] 24)) = W := ⟨_, rfl⟩
  rw [hW] at g0 g1 X0
  have F : Hid (∀ wq, (∃ n, wq = W.drewN n) → (wq.cell? ⟨w.heap.size, 0, none⟩ = some (.float .f32 r0) ∧ wq.cell? ⟨w.heap.size, 1, none⟩ = some (.float .f32 r1) ∧ wq.cell? ⟨w.heap.size, 2, none⟩ = some (.float .f32 r2) ∧ wq.cell? ⟨w.heap.size, 3, none⟩ = some (.float .f32 r3)) ∧
      wq.cell? ⟨w.heap.size + 1, 0, none⟩ = some (.float .f32 s0) ∧ wq.cell? ⟨w.heap.size + 1, 1, none⟩ = some (.float .f32 s1) ∧ wq.cell? ⟨w.heap.size + 1, 2, none⟩ = some (.float .f32 s2) ∧ wq.cell? ⟨w.heap.size + 1, 3, none⟩ = some (.float .f32 s3)) := Lib.hid fun wq ⟨n, hq⟩ => by subst hq; exact ⟨(blk4 (w := W.drewN n) g0).1, (blk4 (w := W.drewN n) g1).1⟩
  clear g0 g1
  obtain ⟨⟨k0, k1, k2, k3⟩, j0, j1, j2, j3⟩ := F.out W ⟨0, rfl⟩
  go_wp2_with fail
  clear hW k0 k1 k2 k3 j0 j1 j2 j3
  refine (HS0.out _ _ _).mono ?_
  rintro e w1 ⟨rfl, n1, hw1⟩
  have E1 : Hid (∃ n, w1 = W.drewN n) := Lib.hid ⟨_, by rw [hw1]; simp only [World.drewN_drewN]; rfl⟩
  obtain ⟨⟨k0, k1, k2, k3⟩, j0, j1, j2, j3⟩ := F.out w1 E1.out
  clear hw1
  go_wp2_with fail
  clear k0 k1 k2 k3 j0 j1 j2 j3
  refine (HS1.out _ _ _).mono ?_
  rintro e w2 ⟨rfl, n2, hw2⟩
  have E2 : Hid (∃ n, w2 = W.drewN n) := Lib.hid (by obtain ⟨n, h⟩ := E1.out; rw [h] at hw2; exact ⟨_, by rw [hw2]; simp only [World.drewN_drewN]; rfl⟩)
  obtain ⟨⟨k0, k1, k2, k3⟩, j0, j1, j2, j3⟩ := F.out w2 E2.out
  clear hw2
  go_wp2_with fail
  clear k0 k1 k2 k3 j0 j1 j2 j3
  refine (HS2.out _ _ _).mono ?_
  rintro e w3 ⟨rfl, n3, hw3⟩
  have E3 : Hid (∃ n, w3 = W.drewN n) := Lib.hid (by obtain ⟨n, h⟩ := E2.out; rw [h] at hw3; exact ⟨_, by rw [hw3]; simp only [World.drewN_drewN]; rfl⟩)
  obtain ⟨⟨k0, k1, k2, k3⟩, j0, j1, j2, j3⟩ := F.out w3 E3.out
  clear hw3
  go_wp2_with fail
  clear k0 k1 k2 k3 j0 j1 j2 j3
  refine (HS3.out _ _ _).mono ?_
  rintro e w4 ⟨rfl, n4, hw4⟩
  have E4 : Hid (Below w.heap.size w w4) := Lib.hid (by obtain ⟨n, h⟩ := E3.out; rw [h] at hw4; rw [hw4]; simp only [World.drewN_drewN]; exact Below.drewN X0.out _)
  clear hw4
  go_wp2
  go_ret
  exact ⟨rfl, E4.out⟩

set_option maxRecDepth 100000 in
set_option maxHeartbeats 4000000 in
theorem lawReadPath_any (w : World) (t : ByteArray) (hD : Dr w) :
    Calls Tryd.prog 3 #[.string t] w (TrueB w) := by
  have HD := Lib.hid hD
  clear hD
  by_cases hmax : t.size ≤ 1048576
  rotate_left
  · go_enter Tryd.func3, Tryd.ntmps3
    have hd : decide ((t.size : Int) > 1048576) = true := by simp; omega
    go_wp2
    go_ret
    exact TrueB.mk (Below.refl _ _)
  · have hd : decide ((t.size : Int) > 1048576) = false := by simp; omega
    have HS := Lib.hid (specReadPath_any w t hmax)
    have HI := Lib.hid (fun wq hq => implReadPath_any wq t hmax (HD.out.mono hq))
    clear hmax
    have hst := run_store_float (P := Tryd.prog)
    go_enter Tryd.func3, Tryd.ntmps3
    go_wp2_with fail
    refine HS.out.mono ?_
    clear HS
    rintro e w1 ⟨u, rfl, hu, b1⟩
    have B1 := Lib.hid b1
    clear b1
    rcases hu with ⟨x0, x1, x2, x3, p, hp, hr, rfl⟩ | ⟨hn, rfl⟩
    · have HP := Lib.hid hp
      have HR := Lib.hid hr
      obtain ⟨r0, r1, r2, r3, rfl, -⟩ := hr
      clear hp
      have hbx : Below w.heap.size w (w1.alloc (.cells #[.float .f32 r0, .float .f32 r1, .float .f32 r2, .float .f32 r3] 24)) := B1.out.alloc B1.out.size _
      have BX := Lib.hid hbx
      have hx1 := alloc_new w1 (.cells #[.float .f32 r0, .float .f32 r1, .float .f32 r2, .float .f32 r3] 24)
      have HX1 := Lib.hid hx1
      have zx : (w1.alloc (.cells #[.float .f32 r0, .float .f32 r1, .float .f32 r2, .float .f32 r3] 24)).heap.size = w1.heap.size + 1 := World.size_alloc _ _
      clear hbx hx1
      go_wp2_with fail
      refine (HI.out _ BX.out).mono ?_
      clear HI
      rintro e w2 ⟨u, rfl, hu, b2⟩
      have B2 := Lib.hid (BX.out.trans (b2.mono BX.out.size))
      have h2 := (b2.block _ (by omega)).trans HX1.out
      have z2 := b2.size
      clear b2 BX HX1
      rcases hu with ⟨y0, y1, y2, y3, p, hp, hr, rfl⟩ | ⟨hn, rfl⟩
      rotate_left
      · have hp := HP.out
        rw [hn] at hp
        cases hp
      · have hp2 := HP.out
        rw [hp] at hp2
        obtain ⟨rfl, rfl, rfl, rfl⟩ : y0 = x0 ∧ y1 = x1 ∧ y2 = x2 ∧ y3 = x3 := by cases hp2; exact ⟨rfl, rfl, rfl, rfl⟩
        clear hp hp2 HP
        have HR2 := Lib.hid hr
        obtain ⟨s0, s1, s2, s3, rfl, -⟩ := hr
        obtain ⟨W3, hW3⟩ : ∃ W3, w2.alloc (.cells #[.float .f32 s0, .float .f32 s1, .float .f32 s2, .float .f32 s3] 24) = W3 := ⟨_, rfl⟩
        have B3 : Hid (Below w.heap.size w W3) := Lib.hid (by rw [← hW3]; exact B2.out.alloc B2.out.size _)
        have h3 : W3.heap[w1.heap.size]? = some (.cells #[.float .f32 r0, .float .f32 r1, .float .f32 r2, .float .f32 r3] 24 (0, 0)) := by
          rw [← hW3]
          exact (((Below.refl _ _).alloc (Nat.le_refl _) _ : Below w2.heap.size w2 (w2.alloc (.cells #[.float .f32 s0, .float .f32 s1, .float .f32 s2, .float .f32 s3] 24))).block _ (by omega)).trans h2
        have h4 : W3.heap[w2.heap.size]? = some (.cells #[.float .f32 s0, .float .f32 s1, .float .f32 s2, .float .f32 s3] 24 (0, 0)) := by rw [← hW3]; exact alloc_new _ _
        obtain ⟨⟨k0, k1, k2, k3⟩, -, -, -, -⟩ := blk4 h3
        obtain ⟨⟨j0, j1, j2, j3⟩, -, -, -, -⟩ := blk4 h4
        have HEQ := Lib.hid (eqPath_any W3 _ _ _ _ _ _ HR2.out HR.out)
        clear h2 h3 h4 HR HR2
        go_wp2_with fail
        clear hW3 k0 k1 k2 k3 j0 j1 j2 j3
        refine HEQ.out.mono ?_
        rintro e w5 ⟨rfl, b5⟩
        have B5 := Lib.hid (B3.out.trans (b5.mono B3.out.size))
        clear b5
        go_wp2
        go_ret
        exact TrueB.mk B5.out
    · have HN := Lib.hid hn
      have HR : Hid (RdPath zeroPath 0 0 0 0) := Lib.hid ⟨0, 0, 0, 0, rfl, fv0 _, fv0 _, fv0 _, fv0 _⟩
      clear hn
      unfold zeroPath at *
      have hbx : Below w.heap.size w (w1.alloc (.cells #[.float .f32 0, .float .f32 0, .float .f32 0, .float .f32 0] 24)) := B1.out.alloc B1.out.size _
      have BX := Lib.hid hbx
      have hx1 := alloc_new w1 (.cells #[.float .f32 0, .float .f32 0, .float .f32 0, .float .f32 0] 24)
      have HX1 := Lib.hid hx1
      have zx : (w1.alloc (.cells #[.float .f32 0, .float .f32 0, .float .f32 0, .float .f32 0] 24)).heap.size = w1.heap.size + 1 := World.size_alloc _ _
      clear hbx hx1
      go_wp2_with fail
      refine (HI.out _ BX.out).mono ?_
      clear HI
      rintro e w2 ⟨u, rfl, hu, b2⟩
      have B2 := Lib.hid (BX.out.trans (b2.mono BX.out.size))
      have h2 := (b2.block _ (by omega)).trans HX1.out
      have z2 := b2.size
      clear b2 BX HX1
      rcases hu with ⟨y0, y1, y2, y3, p, hp, hr, rfl⟩ | ⟨hn, rfl⟩
      · have hp2 := HN.out
        rw [hp] at hp2
        cases hp2
      · unfold zeroPath
        clear hn
        have B3 : Hid (Below w.heap.size w (w2.alloc (.cells #[.float .f32 0, .float .f32 0, .float .f32 0, .float .f32 0] 24))) := Lib.hid (B2.out.alloc B2.out.size _)
        have h3 : (w2.alloc (.cells #[.float .f32 0, .float .f32 0, .float .f32 0, .float .f32 0] 24)).heap[w1.heap.size]? = some (.cells #[.float .f32 0, .float .f32 0, .float .f32 0, .float .f32 0] 24 (0, 0)) :=
          (((Below.refl _ _).alloc (Nat.le_refl _) _ : Below w2.heap.size w2 (w2.alloc (.cells #[.float .f32 0, .float .f32 0, .float .f32 0, .float .f32 0] 24))).block _ (by omega)).trans h2
        obtain ⟨⟨k0, k1, k2, k3⟩, -, -, -, -⟩ := blk4 h3
        have HEQ := Lib.hid (fun W3 => eqPath_any W3 _ _ _ _ _ _ HR.out HR.out)
        clear h2 h3 HR
        go_wp2_with fail
        clear k0 k1 k2 k3
        refine (HEQ.out _).mono ?_
        rintro e w5 ⟨rfl, b5⟩
        have B5 := Lib.hid (B3.out.trans (b5.mono B3.out.size))
        clear b5
        go_wp2
        go_ret
        exact TrueB.mk B5.out
end Go.Proofs.YtjbaebgdebcipaaDoor
