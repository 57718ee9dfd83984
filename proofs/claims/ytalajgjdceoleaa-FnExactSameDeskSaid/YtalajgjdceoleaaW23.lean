/- Walks: SameGround of the reference. -/
import Derived.Test.YtalajgjdceoleaaW22
import Derived.Test.YtalajgjdceoleaaL7
namespace Go.Proofs.Ytalajgjdceoleaa
open Go Go.RowKit

/-- What 'are they the same' hands back, by the bits. -/
def SameT (_ : FuncId) (args : Array Value) (v : Value) : Prop := ∀ r s, args = #[.float .f32 r, .float .f32 s] → v = .bool (can .f32 r == can .f32 s)
theorem heap2 (w : World) (A B : Obj) : ((w.alloc A).alloc B).heap[w.heap.size]? = some A ∧ ((w.alloc A).alloc B).heap[w.heap.size + 1]? = some B := by
  have s1 : (w.alloc A).heap.size = w.heap.size + 1 := World.size_alloc _ _
  refine ⟨?_, ?_⟩
  · rw [Below.heap_alloc _ _ _ (by omega), heap_alloc_new]
  · rw [← s1, heap_alloc_new]

set_option maxRecDepth 100000 in
set_option maxHeartbeats 4000000 in
theorem specSameGround_any (w : World) (u1 u2 : Value) (F G : GM) (h1 : RdG w u1 F) (h2 : RdG w u2 G) (hs : F.small) (ht : G.small) :
    Calls Try.prog 32 #[u1, u2] w fun e w' => e = .returned (.bool (sameG F G)) ∧ Below w.heap.size w w' := by
  obtain ⟨v, r, s, rfl, l1, f1, f2⟩ := h1
  obtain ⟨v', r', s', rfl, l2, f3, f4⟩ := h2
  obtain ⟨a1, c1, rfl, hc1, -, hcell1⟩ := l1.opened
  obtain ⟨a2, c2, rfl, hc2, -, hcell2⟩ := l2.opened
  have hb0 : Below w.heap.size w ((w.alloc (.cells #[.slice a1 F.n c1, .float .f32 r, .float .f32 s] 28)).alloc (.cells #[.slice a2 G.n c2, .float .f32 r', .float .f32 s'] 28)) := by (repeat (first | exact Below.refl _ _ | (refine Below.drewN ?_ _) | (refine Below.alloc ?_ (by first | exact Nat.le_refl _ | (simp; done) | (simp; omega)) _)))
  have hh := heap2 w (.cells #[.slice a1 F.n c1, .float .f32 r, .float .f32 s] 28) (.cells #[.slice a2 G.n c2, .float .f32 r', .float .f32 s'] 28)
  unfold GM.small at hs ht
  by_cases hl : F.n = G.n
  · have hne : ((F.n : Int) != (G.n : Int)) = false := by rw [hl]; simp
    have Hl := Lib.hid hl
    clear hl l1 l2
    go_enter Try.func32, Try.ntmps32
    go_wp2_with fail
    generalize ((w.alloc (.cells #[.slice a1 F.n c1, .float .f32 r, .float .f32 s] 28)).alloc (.cells #[.slice a2 G.n c2, .float .f32 r', .float .f32 s'] 28)) = w0 at *
    obtain ⟨i0, i1, i2, -, -, -⟩ := blk3 hh.1
    obtain ⟨j0, j1, j2, -, -, -⟩ := blk3 hh.2
    refine (l01Same_any _ r r' _ _ f1 f3).mono ?_
    rintro e w1 ⟨rfl, rfl⟩
    cases q1 : (F.s == G.s) with
    | false =>
      go_wp2
      go_ret
      exact ⟨by unfold sameG; rw [q1]; rfl, hb0⟩
    | true =>
      go_wp2_with fail
      refine (l01Same_any _ s s' _ _ f2 f4).mono ?_
      rintro e w1 ⟨rfl, rfl⟩
      cases q2 : (F.d == G.d) with
      | false =>
        go_wp2
        go_ret
        exact ⟨by unfold sameG; rw [q1, q2]; rfl, hb0⟩
      | true =>
        have Q1 := Lib.hid q1
        have Q2 := Lib.hid q2
        clear q1 q2
        go_wp2
        go_loopw [5] (fun i wr => ∃ k q : Nat, k ≤ F.n ∧ i = .int .i64 k ∧ sameLTo F.L G.L k = true ∧ wr = w1.drewN q) (fun i _ => F.n - (intOf i).toNat)
        case atStart => exact ⟨0, 0, Nat.zero_le _, rfl, rfl, rfl⟩
        case round =>
          obtain ⟨wi, rfl⟩ : ∃ wi : World, wi = wr := ⟨_, rfl⟩
          obtain ⟨k, q, hk, rfl, hsk, hq⟩ := hrel
          have Hsk := Lib.hid hsk
          rw [← show wi.cell? ⟨w.heap.size, 0, none⟩ = w1.cell? ⟨w.heap.size, 0, none⟩ by rw [hq]; rfl] at i0
          rw [← show wi.cell? ⟨w.heap.size + 1, 0, none⟩ = w1.cell? ⟨w.heap.size + 1, 0, none⟩ by rw [hq]; rfl] at j0
          clear i1 i2 j1 j2
          by_cases hlt : k < F.n
          · have hlt2 : k < G.n := by have := Hl.out; omega
            obtain ⟨b, o, r0, r1, r2, r3, rfl, hlb, d0, d1, d2, d3, p0, p1, p2, p3⟩ := hcell1 k hlt
            obtain ⟨b', o', s0, s1, s2, s3, rfl, hlb', g0, g1, g2, g3, e0, e1, e2, e3⟩ := hcell2 k hlt2
            rw [← (bcell hb0).1 _ _ hlb] at d0 d1 d2 d3
            rw [← (bcell hb0).1 _ _ hlb'] at g0 g1 g2 g3
            have hw : ∀ p, wi.cell? p = w1.cell? p := fun p => by rw [hq]; rfl
            rw [← hw] at d0 d1 d2 d3 g0 g1 g2 g3
            have Hq := Lib.hid hq
            have Hb0 := Lib.hid hb0
            clear hcell1 hcell2 hsk hq hw hb0 hh
            have hc : ∀ (x y a c : Nat), FV .f32 x a → FV .f32 y c → ∀ wq, Drawn wi wq → Calls Try.prog 58 #[.float .f32 x, .float .f32 y] wq (fun e w'' => ∃ u, e = .returned u ∧ SameT 58 #[.float .f32 x, .float .f32 y] u ∧ Drawn wi w'') := fun x y a c hx hy wq hwq => by
              obtain ⟨n, rfl⟩ := hwq
              refine (l01Same_any (wi.drewN n) x y a c hx hy).mono ?_
              rintro e w'' ⟨rfl, rfl⟩
              refine ⟨_, rfl, ?_, n, rfl⟩
              intro r s hrs
              cases hrs
              rw [hx.2, hy.2]
            have hT : ∀ (x y a c : Nat) (t : Bool) (v : Value), FV .f32 x a → FV .f32 y c → (a == c) = t → SameT 58 #[.float .f32 x, .float .f32 y] v → v = .bool t := fun x y a c t v hx hy ht hv => by
              rw [hv x y rfl, hx.2, hy.2, ht]
            have HC := Lib.hid hc
            have HT := Lib.hid hT
            clear hc hT
            go_wp2
            refine region_rel_all (by kernel_rfl) (by kernel_rfl) (Drawn wi) SameT ⟨1, rfl⟩ ?_
            cases h0 : (F.L.getD (4 * k) 0 == G.L.getD (4 * k) 0) with
            | false =>
              have E0 := Lib.hid h0
              clear h0
              repeat (first | (refine wpRel_draw rfl rfl (fun nq K hK => ?_); go_wp2) | (refine wpRel_skip rfl ?_; simp only [Act.put, List.setIfInBounds_toArray, List.set_cons_succ, List.set_cons_zero]))
              refine wpRel_callG #[.float .f32 r0, .float .f32 s0] rfl Try.func58 (by kernel_rfl) (by kernel_rfl) (by simp [go_sem]) ⟨wi, 0, rfl⟩ ⟨.bool (can .f32 r0 == can .f32 s0), fun r s hrs => (by cases hrs; rfl)⟩ (HC.out r0 s0 _ _ p0 e0) ?_
              intro v hv
              obtain rfl : v = .bool false := HT.out r0 s0 _ _ false v p0 e0 E0.out hv
              clear hv
              simp only [Act.put, List.setIfInBounds_toArray, List.set_cons_succ, List.set_cons_zero]
              repeat (first | (refine wpRel_draw rfl rfl (fun nq K hK => ?_); go_wp2) | (refine wpRel_skip rfl ?_; simp only [Act.put, List.setIfInBounds_toArray, List.set_cons_succ, List.set_cons_zero]))
              refine wpRel_nil ?_
              rintro wd ⟨nd, hwd⟩
              have Hwd := Lib.hid hwd
              clear hwd
              go_wp2
              go_ret
              have hl4 : lay4 F.L G.L k = false := by unfold lay4; rw [E0.out]; rfl
              exact ⟨by unfold sameG sameLL; rw [sameLTo_false hlt hl4]; simp, by rw [Hwd.out, Hq.out, World.drewN_drewN]; exact Below.drewN Hb0.out _⟩
            | true =>
              have E0 := Lib.hid h0
              clear h0
              cases h1 : (F.L.getD (4 * k + 1) 0 == G.L.getD (4 * k + 1) 0) with
              | false =>
                have E1 := Lib.hid h1
                clear h1
                repeat (first | (refine wpRel_draw rfl rfl (fun nq K hK => ?_); go_wp2) | (refine wpRel_skip rfl ?_; simp only [Act.put, List.setIfInBounds_toArray, List.set_cons_succ, List.set_cons_zero]))
                refine wpRel_callG #[.float .f32 r0, .float .f32 s0] rfl Try.func58 (by kernel_rfl) (by kernel_rfl) (by simp [go_sem]) ⟨wi, 0, rfl⟩ ⟨.bool (can .f32 r0 == can .f32 s0), fun r s hrs => (by cases hrs; rfl)⟩ (HC.out r0 s0 _ _ p0 e0) ?_
                intro v hv
                obtain rfl : v = .bool true := HT.out r0 s0 _ _ true v p0 e0 E0.out hv
                clear hv
                simp only [Act.put, List.setIfInBounds_toArray, List.set_cons_succ, List.set_cons_zero]
                repeat (first | (refine wpRel_draw rfl rfl (fun nq K hK => ?_); go_wp2) | (refine wpRel_skip rfl ?_; simp only [Act.put, List.setIfInBounds_toArray, List.set_cons_succ, List.set_cons_zero]))
                refine wpRel_callG #[.float .f32 r1, .float .f32 s1] rfl Try.func58 (by kernel_rfl) (by kernel_rfl) (by simp [go_sem]) ⟨wi, 0, rfl⟩ ⟨.bool (can .f32 r1 == can .f32 s1), fun r s hrs => (by cases hrs; rfl)⟩ (HC.out r1 s1 _ _ p1 e1) ?_
                intro v hv
                obtain rfl : v = .bool false := HT.out r1 s1 _ _ false v p1 e1 E1.out hv
                clear hv
                simp only [Act.put, List.setIfInBounds_toArray, List.set_cons_succ, List.set_cons_zero]
                repeat (first | (refine wpRel_draw rfl rfl (fun nq K hK => ?_); go_wp2) | (refine wpRel_skip rfl ?_; simp only [Act.put, List.setIfInBounds_toArray, List.set_cons_succ, List.set_cons_zero]))
                refine wpRel_nil ?_
                rintro wd ⟨nd, hwd⟩
                have Hwd := Lib.hid hwd
                clear hwd
                go_wp2
                go_ret
                have hl4 : lay4 F.L G.L k = false := by unfold lay4; rw [E0.out, E1.out]; rfl
                exact ⟨by unfold sameG sameLL; rw [sameLTo_false hlt hl4]; simp, by rw [Hwd.out, Hq.out, World.drewN_drewN]; exact Below.drewN Hb0.out _⟩
              | true =>
                have E1 := Lib.hid h1
                clear h1
                cases h2 : (F.L.getD (4 * k + 2) 0 == G.L.getD (4 * k + 2) 0) with
                | false =>
                  have E2 := Lib.hid h2
                  clear h2
                  repeat (first | (refine wpRel_draw rfl rfl (fun nq K hK => ?_); go_wp2) | (refine wpRel_skip rfl ?_; simp only [Act.put, List.setIfInBounds_toArray, List.set_cons_succ, List.set_cons_zero]))
                  refine wpRel_callG #[.float .f32 r0, .float .f32 s0] rfl Try.func58 (by kernel_rfl) (by kernel_rfl) (by simp [go_sem]) ⟨wi, 0, rfl⟩ ⟨.bool (can .f32 r0 == can .f32 s0), fun r s hrs => (by cases hrs; rfl)⟩ (HC.out r0 s0 _ _ p0 e0) ?_
                  intro v hv
                  obtain rfl : v = .bool true := HT.out r0 s0 _ _ true v p0 e0 E0.out hv
                  clear hv
                  simp only [Act.put, List.setIfInBounds_toArray, List.set_cons_succ, List.set_cons_zero]
                  repeat (first | (refine wpRel_draw rfl rfl (fun nq K hK => ?_); go_wp2) | (refine wpRel_skip rfl ?_; simp only [Act.put, List.setIfInBounds_toArray, List.set_cons_succ, List.set_cons_zero]))
                  refine wpRel_callG #[.float .f32 r1, .float .f32 s1] rfl Try.func58 (by kernel_rfl) (by kernel_rfl) (by simp [go_sem]) ⟨wi, 0, rfl⟩ ⟨.bool (can .f32 r1 == can .f32 s1), fun r s hrs => (by cases hrs; rfl)⟩ (HC.out r1 s1 _ _ p1 e1) ?_
                  intro v hv
                  obtain rfl : v = .bool true := HT.out r1 s1 _ _ true v p1 e1 E1.out hv
                  clear hv
                  simp only [Act.put, List.setIfInBounds_toArray, List.set_cons_succ, List.set_cons_zero]
                  repeat (first | (refine wpRel_draw rfl rfl (fun nq K hK => ?_); go_wp2) | (refine wpRel_skip rfl ?_; simp only [Act.put, List.setIfInBounds_toArray, List.set_cons_succ, List.set_cons_zero]))
                  refine wpRel_callG #[.float .f32 r2, .float .f32 s2] rfl Try.func58 (by kernel_rfl) (by kernel_rfl) (by simp [go_sem]) ⟨wi, 0, rfl⟩ ⟨.bool (can .f32 r2 == can .f32 s2), fun r s hrs => (by cases hrs; rfl)⟩ (HC.out r2 s2 _ _ p2 e2) ?_
                  intro v hv
                  obtain rfl : v = .bool false := HT.out r2 s2 _ _ false v p2 e2 E2.out hv
                  clear hv
                  simp only [Act.put, List.setIfInBounds_toArray, List.set_cons_succ, List.set_cons_zero]
                  repeat (first | (refine wpRel_draw rfl rfl (fun nq K hK => ?_); go_wp2) | (refine wpRel_skip rfl ?_; simp only [Act.put, List.setIfInBounds_toArray, List.set_cons_succ, List.set_cons_zero]))
                  refine wpRel_nil ?_
                  rintro wd ⟨nd, hwd⟩
                  have Hwd := Lib.hid hwd
                  clear hwd
                  go_wp2
                  go_ret
                  have hl4 : lay4 F.L G.L k = false := by unfold lay4; rw [E0.out, E1.out, E2.out]; rfl
                  exact ⟨by unfold sameG sameLL; rw [sameLTo_false hlt hl4]; simp, by rw [Hwd.out, Hq.out, World.drewN_drewN]; exact Below.drewN Hb0.out _⟩
                | true =>
                  have E2 := Lib.hid h2
                  clear h2
                  cases h3 : (F.L.getD (4 * k + 3) 0 == G.L.getD (4 * k + 3) 0) with
                  | false =>
                    have E3 := Lib.hid h3
                    clear h3
                    repeat (first | (refine wpRel_draw rfl rfl (fun nq K hK => ?_); go_wp2) | (refine wpRel_skip rfl ?_; simp only [Act.put, List.setIfInBounds_toArray, List.set_cons_succ, List.set_cons_zero]))
                    refine wpRel_callG #[.float .f32 r0, .float .f32 s0] rfl Try.func58 (by kernel_rfl) (by kernel_rfl) (by simp [go_sem]) ⟨wi, 0, rfl⟩ ⟨.bool (can .f32 r0 == can .f32 s0), fun r s hrs => (by cases hrs; rfl)⟩ (HC.out r0 s0 _ _ p0 e0) ?_
                    intro v hv
                    obtain rfl : v = .bool true := HT.out r0 s0 _ _ true v p0 e0 E0.out hv
                    clear hv
                    simp only [Act.put, List.setIfInBounds_toArray, List.set_cons_succ, List.set_cons_zero]
                    repeat (first | (refine wpRel_draw rfl rfl (fun nq K hK => ?_); go_wp2) | (refine wpRel_skip rfl ?_; simp only [Act.put, List.setIfInBounds_toArray, List.set_cons_succ, List.set_cons_zero]))
                    refine wpRel_callG #[.float .f32 r1, .float .f32 s1] rfl Try.func58 (by kernel_rfl) (by kernel_rfl) (by simp [go_sem]) ⟨wi, 0, rfl⟩ ⟨.bool (can .f32 r1 == can .f32 s1), fun r s hrs => (by cases hrs; rfl)⟩ (HC.out r1 s1 _ _ p1 e1) ?_
                    intro v hv
                    obtain rfl : v = .bool true := HT.out r1 s1 _ _ true v p1 e1 E1.out hv
                    clear hv
                    simp only [Act.put, List.setIfInBounds_toArray, List.set_cons_succ, List.set_cons_zero]
                    repeat (first | (refine wpRel_draw rfl rfl (fun nq K hK => ?_); go_wp2) | (refine wpRel_skip rfl ?_; simp only [Act.put, List.setIfInBounds_toArray, List.set_cons_succ, List.set_cons_zero]))
                    refine wpRel_callG #[.float .f32 r2, .float .f32 s2] rfl Try.func58 (by kernel_rfl) (by kernel_rfl) (by simp [go_sem]) ⟨wi, 0, rfl⟩ ⟨.bool (can .f32 r2 == can .f32 s2), fun r s hrs => (by cases hrs; rfl)⟩ (HC.out r2 s2 _ _ p2 e2) ?_
                    intro v hv
                    obtain rfl : v = .bool true := HT.out r2 s2 _ _ true v p2 e2 E2.out hv
                    clear hv
                    simp only [Act.put, List.setIfInBounds_toArray, List.set_cons_succ, List.set_cons_zero]
                    repeat (first | (refine wpRel_draw rfl rfl (fun nq K hK => ?_); go_wp2) | (refine wpRel_skip rfl ?_; simp only [Act.put, List.setIfInBounds_toArray, List.set_cons_succ, List.set_cons_zero]))
                    refine wpRel_callG #[.float .f32 r3, .float .f32 s3] rfl Try.func58 (by kernel_rfl) (by kernel_rfl) (by simp [go_sem]) ⟨wi, 0, rfl⟩ ⟨.bool (can .f32 r3 == can .f32 s3), fun r s hrs => (by cases hrs; rfl)⟩ (HC.out r3 s3 _ _ p3 e3) ?_
                    intro v hv
                    obtain rfl : v = .bool false := HT.out r3 s3 _ _ false v p3 e3 E3.out hv
                    clear hv
                    simp only [Act.put, List.setIfInBounds_toArray, List.set_cons_succ, List.set_cons_zero]
                    repeat (first | (refine wpRel_draw rfl rfl (fun nq K hK => ?_); go_wp2) | (refine wpRel_skip rfl ?_; simp only [Act.put, List.setIfInBounds_toArray, List.set_cons_succ, List.set_cons_zero]))
                    refine wpRel_nil ?_
                    rintro wd ⟨nd, hwd⟩
                    have Hwd := Lib.hid hwd
                    clear hwd
                    go_wp2
                    go_ret
                    have hl4 : lay4 F.L G.L k = false := by unfold lay4; rw [E0.out, E1.out, E2.out, E3.out]; rfl
                    exact ⟨by unfold sameG sameLL; rw [sameLTo_false hlt hl4]; simp, by rw [Hwd.out, Hq.out, World.drewN_drewN]; exact Below.drewN Hb0.out _⟩
                  | true =>
                    have E3 := Lib.hid h3
                    clear h3
                    repeat (first | (refine wpRel_draw rfl rfl (fun nq K hK => ?_); go_wp2) | (refine wpRel_skip rfl ?_; simp only [Act.put, List.setIfInBounds_toArray, List.set_cons_succ, List.set_cons_zero]))
                    refine wpRel_callG #[.float .f32 r0, .float .f32 s0] rfl Try.func58 (by kernel_rfl) (by kernel_rfl) (by simp [go_sem]) ⟨wi, 0, rfl⟩ ⟨.bool (can .f32 r0 == can .f32 s0), fun r s hrs => (by cases hrs; rfl)⟩ (HC.out r0 s0 _ _ p0 e0) ?_
                    intro v hv
                    obtain rfl : v = .bool true := HT.out r0 s0 _ _ true v p0 e0 E0.out hv
                    clear hv
                    simp only [Act.put, List.setIfInBounds_toArray, List.set_cons_succ, List.set_cons_zero]
                    repeat (first | (refine wpRel_draw rfl rfl (fun nq K hK => ?_); go_wp2) | (refine wpRel_skip rfl ?_; simp only [Act.put, List.setIfInBounds_toArray, List.set_cons_succ, List.set_cons_zero]))
                    refine wpRel_callG #[.float .f32 r1, .float .f32 s1] rfl Try.func58 (by kernel_rfl) (by kernel_rfl) (by simp [go_sem]) ⟨wi, 0, rfl⟩ ⟨.bool (can .f32 r1 == can .f32 s1), fun r s hrs => (by cases hrs; rfl)⟩ (HC.out r1 s1 _ _ p1 e1) ?_
                    intro v hv
                    obtain rfl : v = .bool true := HT.out r1 s1 _ _ true v p1 e1 E1.out hv
                    clear hv
                    simp only [Act.put, List.setIfInBounds_toArray, List.set_cons_succ, List.set_cons_zero]
                    repeat (first | (refine wpRel_draw rfl rfl (fun nq K hK => ?_); go_wp2) | (refine wpRel_skip rfl ?_; simp only [Act.put, List.setIfInBounds_toArray, List.set_cons_succ, List.set_cons_zero]))
                    refine wpRel_callG #[.float .f32 r2, .float .f32 s2] rfl Try.func58 (by kernel_rfl) (by kernel_rfl) (by simp [go_sem]) ⟨wi, 0, rfl⟩ ⟨.bool (can .f32 r2 == can .f32 s2), fun r s hrs => (by cases hrs; rfl)⟩ (HC.out r2 s2 _ _ p2 e2) ?_
                    intro v hv
                    obtain rfl : v = .bool true := HT.out r2 s2 _ _ true v p2 e2 E2.out hv
                    clear hv
                    simp only [Act.put, List.setIfInBounds_toArray, List.set_cons_succ, List.set_cons_zero]
                    repeat (first | (refine wpRel_draw rfl rfl (fun nq K hK => ?_); go_wp2) | (refine wpRel_skip rfl ?_; simp only [Act.put, List.setIfInBounds_toArray, List.set_cons_succ, List.set_cons_zero]))
                    refine wpRel_callG #[.float .f32 r3, .float .f32 s3] rfl Try.func58 (by kernel_rfl) (by kernel_rfl) (by simp [go_sem]) ⟨wi, 0, rfl⟩ ⟨.bool (can .f32 r3 == can .f32 s3), fun r s hrs => (by cases hrs; rfl)⟩ (HC.out r3 s3 _ _ p3 e3) ?_
                    intro v hv
                    obtain rfl : v = .bool true := HT.out r3 s3 _ _ true v p3 e3 E3.out hv
                    clear hv
                    simp only [Act.put, List.setIfInBounds_toArray, List.set_cons_succ, List.set_cons_zero]
                    repeat (first | (refine wpRel_draw rfl rfl (fun nq K hK => ?_); go_wp2) | (refine wpRel_skip rfl ?_; simp only [Act.put, List.setIfInBounds_toArray, List.set_cons_succ, List.set_cons_zero]))
                    refine wpRel_nil ?_
                    rintro wd ⟨nd, hwd⟩
                    have Hwd := Lib.hid hwd
                    clear hwd
                    go_wp2
                    have hl4 : lay4 F.L G.L k = true := by unfold lay4; rw [E0.out, E1.out, E2.out, E3.out]; rfl
                    exact ⟨⟨k + 1, q + nd, by omega, by go_num, by rw [sameLTo_succ, Hsk.out, hl4]; rfl, by rw [Hwd.out, Hq.out, World.drewN_drewN]⟩, by simp [intOf]; omega⟩
          · have Hq := Lib.hid hq
            have Hb0 := Lib.hid hb0
            clear hq hsk hb0
            go_wp2
            go_ret
            obtain rfl : k = F.n := by omega
            exact ⟨by unfold sameG sameLL; rw [Q1.out, Q2.out, Hsk.out, Hl.out]; simp, by rw [Hq.out]; exact Below.drewN Hb0.out _⟩
  · have hne : ((F.n : Int) != (G.n : Int)) = true := by simp; omega
    have hr : sameG F G = false := by unfold sameG; rw [sameLL_len hl]; simp
    rw [hr]
    clear hr l1 l2
    go_enter Try.func32, Try.ntmps32
    go_wp2
    go_ret
    exact ⟨rfl, hb0⟩
end Go.Proofs.Ytalajgjdceoleaa
