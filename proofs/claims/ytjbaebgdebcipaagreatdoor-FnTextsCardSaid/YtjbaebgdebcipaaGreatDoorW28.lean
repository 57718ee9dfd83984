/- Walks: a ground is valid: the program's, the reference's. -/
import Derived.Test.YtjbaebgdebcipaaGreatDoorW27
namespace Go.Proofs.YtjbaebgdebcipaaGreatDoor
open Go Go.RowKit

set_option maxRecDepth 100000 in
set_option maxHeartbeats 800000 in
theorem implValidGround_any (w : World) (u : Value) (G : GM) (h : RdG w u G) (hs : G.small) :
    Calls Tryz.prog 44 #[u] w fun e w' => e = .returned (.bool (validG G)) ∧ Below w.heap.size w w' := by
  obtain ⟨v, r, s, rfl, l1, f1, f2⟩ := h
  obtain ⟨n, L, x, y⟩ := G
  simp only [GM.small] at *
  obtain ⟨a, c, rfl, hc, -⟩ := l1.opened
  have hb0 : Below w.heap.size w (w.alloc (.cells #[.slice a n c, .float .f32 r, .float .f32 s] 43)) := by (repeat (first | exact Below.refl _ _ | (refine Below.drewN ?_ _) | (refine Below.alloc ?_ (by first | exact Nat.le_refl _ | (simp; done) | (simp; omega)) _)))
  by_cases h1 : 1 ≤ n
  · by_cases h2 : n ≤ 12
    · have hv : validG ⟨n, L, x, y⟩ = (allB posB [x, y] && layVTo L n) := by simp [validG, h1, h2, allB, allTo, List.range_succ, Bool.and_assoc]
      rw [hv]
      clear hv
      have g1 : (1 : Int) ≤ n := by omega
      have g2 : (n : Int) ≤ 12 := by omega
      have hb1 : Below w.heap.size w ((w.alloc (.cells #[.slice a n c, .float .f32 r, .float .f32 s] 43)).alloc (.cells #[.float .f32 r, .float .f32 s] 25)) := by (repeat (first | exact Below.refl _ _ | (refine Below.drewN ?_ _) | (refine Below.alloc ?_ (by first | exact Nat.le_refl _ | (simp; done) | (simp; omega)) _)))
      have hh := heap2 w (.cells #[.slice a n c, .float .f32 r, .float .f32 s] 43) (.cells #[.float .f32 r, .float .f32 s] 25)
      have hR : RdF ((w.alloc (.cells #[.slice a n c, .float .f32 r, .float .f32 s] 43)).alloc (.cells #[.float .f32 r, .float .f32 s] 25)) (.slice (some ⟨w.heap.size + 1, 0, none⟩) 2 2) [x, y] :=
        RdF.ofBlock (cs := [r, s]) (L := [x, y]) hh.2 rfl (fun j hj => by
          match j, hj with
          | 0, _ => exact f1
          | 1, _ => exact f2)
      go_enter Tryz.func44, Tryz.ntmps44
      go_wp2_with (first | (go_at_call 79; go_in) | (go_at_call 78; go_in))
      refine (arePositive_any _ _ [x, y] hR (by simp)).mono ?_
      rintro e w1 ⟨rfl, m, hw1⟩
      have k0 : w1.cell? ⟨w.heap.size, 0, none⟩ = some (.slice a n c) := by rw [hw1]; exact cell_at 0 hh.1
      have hb2 := Below.drewN hb1 m
      rw [← hw1] at hb2
      clear hw1 hh hR hb0 hb1
      cases hp : allB posB [x, y] with
      | false =>
        go_wp2
        go_ret
        exact ⟨by simp [hp], hb2⟩
      | true =>
        go_wp2_with fail
        refine (containsLay_any w1 _ n L (l1.mono hb2) hs).mono ?_
        rintro e w2 ⟨rfl, b2⟩
        go_wp2
        go_ret
        exact ⟨by simp [hp], hb2.trans (b2.mono hb2.size)⟩
    · have hv : validG ⟨n, L, x, y⟩ = false := by simp [validG, h2]
      rw [hv]
      have g1 : (1 : Int) ≤ n := by omega
      have g2 : ¬ ((n : Int) ≤ 12) := by omega
      go_enter Tryz.func44, Tryz.ntmps44
      go_wp2
      go_ret
      exact ⟨rfl, hb0⟩
  · have hv : validG ⟨n, L, x, y⟩ = false := by simp [validG, h1]
    rw [hv]
    have g1 : ¬ ((1 : Int) ≤ n) := by omega
    go_enter Tryz.func44, Tryz.ntmps44
    go_wp2
    go_ret
    exact ⟨rfl, hb0⟩

set_option maxRecDepth 100000 in
set_option maxHeartbeats 2000000 in
theorem l02Is_any (w : World) (g o : Nat) (v : Value) (r s : Nat) (G : GM) (c0 : w.cell? ⟨g, o, none⟩ = some v) (c1 : w.cell? ⟨g, o + 1, none⟩ = some (.float .f32 r)) (c2 : w.cell? ⟨g, o + 2, none⟩ = some (.float .f32 s))
    (l1 : RdLay w v G.n G.L) (f1 : FV .f32 r G.s) (f2 : FV .f32 s G.d) (hs : G.small) :
    Calls Tryz.prog 76 #[.pointer (some ⟨g, o, none⟩)] w fun e w' => e = .returned (.bool (validG G)) ∧ ∃ m, w' = w.drewN m := by
  obtain ⟨n, L, x, y⟩ := G
  simp only [GM.small] at *
  obtain ⟨a, c, rfl, hc, -, hcell⟩ := l1.opened
  by_cases h1 : 1 ≤ n
  · have g1 : ¬ ((n : Int) < 1) := by omega
    by_cases h2 : n ≤ 12
    · have g2 : ¬ ((n : Int) > 12) := by omega
      have hv : validG ⟨n, L, x, y⟩ = (posB x && (posB y && layVTo L n)) := by simp [validG, h1, h2]
      rw [hv]
      clear hv
      go_enter Tryz.func76, Tryz.ntmps76
      go_wp2_with fail
      refine (l02Above_any w r x f1).mono ?_
      rintro e w1 ⟨rfl, m1, hw1⟩
      have c2' : w1.cell? ⟨g, o + 2, none⟩ = some (.float .f32 s) := by rw [hw1]; exact c2
      have Hw1 := Lib.hid hw1
      clear hw1
      cases hx : posB x with
      | false =>
        go_wp2
        go_ret
        exact ⟨by simp [hx], m1, Hw1.out⟩
      | true =>
        go_wp2_with fail
        refine (l02Above_any w1 s y f2).mono ?_
        rintro e w2 ⟨rfl, m2, hw2⟩
        have e2 : w2 = w.drewN (m1 + m2) := by rw [hw2, Hw1.out, World.drewN_drewN]
        clear hw2 Hw1 c2'
        cases hy : posB y with
        | false =>
          have E2 := Lib.hid e2
          clear e2
          go_wp2
          go_ret
          exact ⟨by simp [hx, hy], _, E2.out⟩
        | true =>
          have C0 := Lib.hid c0
          have E2 := Lib.hid e2
          clear e2 c0 c1 c2
          go_wp2
          go_loopw [3, 4] (fun i _ wr => ∃ k q : Nat, k ≤ n ∧ i = .int .i64 k ∧ layVTo L k = true ∧ wr = w.drewN q) (fun i _ _ => n - (intOf i).toNat)
          case atStart => exact ⟨0, _, Nat.zero_le _, rfl, rfl, E2.out⟩
          case round =>
            obtain ⟨wi, rfl⟩ : ∃ wi : World, wi = wr := ⟨_, rfl⟩
            obtain ⟨k, q, hk, rfl, hsk, hq⟩ := hrel
            have Hsk := Lib.hid hsk
            have c0 : wi.cell? ⟨g, o, none⟩ = some (.slice a n c) := by rw [hq]; exact C0.out
            by_cases hlt : k < n
            · obtain ⟨b, o', r0, r1, r2, r3, rfl, hlb, d0, d1, d2, d3, f0', f1', f2', f3'⟩ := hcell k hlt
              have q0 : wi.cell? ⟨b, o' + k * 4, none⟩ = some (.float .f32 r0) := by rw [hq]; exact d0
              have Hq := Lib.hid hq
              have hg : (FloatKind.f32.format.order r3 0 == some Ordering.gt || FloatKind.f32.format.order r3 0 == some Ordering.eq) = geqB (L.getD (4 * k + 3) 0) := by rw [f3'.order (fv0 _)]; rfl
              have hl : (FloatKind.f32.format.order r3 1065353216 == some Ordering.lt) = lowB (L.getD (4 * k + 3) 0) := by rw [f3'.order fvOne]; rfl
              have hlay : layV L k = (posB (L.getD (4 * k) 0) && (posB (L.getD (4 * k + 1) 0) && (posB (L.getD (4 * k + 2) 0) && (geqB (L.getD (4 * k + 3) 0) && lowB (L.getD (4 * k + 3) 0))))) := rfl
              have Hlay := Lib.hid hlay
              have HG := Lib.hid hg
              have HL := Lib.hid hl
              have D1 := Lib.hid d1
              have D2 := Lib.hid d2
              have D3 := Lib.hid d3
              clear hcell hsk hq d0 d1 d2 d3 hg hl hlay
              go_wp2_with fail
              refine (l02Above_any wi r0 _ f0').mono ?_
              rintro e w3 ⟨rfl, m3, hw3⟩
              have e3 : w3 = w.drewN (q + m3) := by rw [hw3, Hq.out, World.drewN_drewN]
              have q1 : w3.cell? ⟨b, o' + k * 4 + 1, none⟩ = some (.float .f32 r1) := by rw [e3]; exact D1.out
              have E3 := Lib.hid e3
              clear hw3 e3 q0 c0
              cases p0 : posB (L.getD (4 * k) 0) with
              | false =>
                have P0 := Lib.hid p0
                clear p0
                go_wp2
                go_ret
                exact ⟨by rw [layVTo_false hlt (by rw [Hlay.out, P0.out]; rfl), hx, hy]; rfl, _, E3.out⟩
              | true =>
                have P0 := Lib.hid p0
                clear p0
                go_wp2_with fail
                refine (l02Above_any w3 r1 _ f1').mono ?_
                rintro e w4 ⟨rfl, m4, hw4⟩
                have e4 : w4 = w.drewN (q + m3 + m4) := by rw [hw4, E3.out, World.drewN_drewN]
                have q2 : w4.cell? ⟨b, o' + k * 4 + 2, none⟩ = some (.float .f32 r2) := by rw [e4]; exact D2.out
                have E4 := Lib.hid e4
                clear hw4 e4 q1
                cases p1 : posB (L.getD (4 * k + 1) 0) with
                | false =>
                  have P1 := Lib.hid p1
                  clear p1
                  go_wp2
                  go_ret
                  exact ⟨by rw [layVTo_false hlt (by rw [Hlay.out, P0.out, P1.out]; rfl), hx, hy]; rfl, _, E4.out⟩
                | true =>
                  have P1 := Lib.hid p1
                  clear p1
                  go_wp2_with fail
                  refine (l02Above_any w4 r2 _ f2').mono ?_
                  rintro e w5 ⟨rfl, m5, hw5⟩
                  have e5 : w5 = w.drewN (q + m3 + m4 + m5) := by rw [hw5, E4.out, World.drewN_drewN]
                  have q3 : w5.cell? ⟨b, o' + k * 4 + 3, none⟩ = some (.float .f32 r3) := by rw [e5]; exact D3.out
                  have E5 := Lib.hid e5
                  clear hw5 e5 q2
                  cases p2 : posB (L.getD (4 * k + 2) 0) with
                  | false =>
                    have P2 := Lib.hid p2
                    clear p2
                    go_wp2
                    go_ret
                    exact ⟨by rw [layVTo_false hlt (by rw [Hlay.out, P0.out, P1.out, P2.out]; rfl), hx, hy]; rfl, _, E5.out⟩
                  | true =>
                    have P2 := Lib.hid p2
                    clear p2
                    have hg := HG.out
                    have hl := HL.out
                    cases p3 : geqB (L.getD (4 * k + 3) 0) with
                    | false =>
                      rw [p3] at hg
                      have P3 := Lib.hid p3
                      clear p3 hl
                      go_wp2
                      go_ret
                      exact ⟨by rw [layVTo_false hlt (by rw [Hlay.out, P0.out, P1.out, P2.out, P3.out]; rfl), hx, hy]; rfl, _, E5.out⟩
                    | true =>
                      rw [p3] at hg
                      have P3 := Lib.hid p3
                      clear p3
                      cases p4 : lowB (L.getD (4 * k + 3) 0) with
                      | false =>
                        rw [p4] at hl
                        have P4 := Lib.hid p4
                        clear p4
                        go_wp2
                        go_ret
                        exact ⟨by rw [layVTo_false hlt (by rw [Hlay.out, P0.out, P1.out, P2.out, P3.out, P4.out]; rfl), hx, hy]; rfl, _, E5.out⟩
                      | true =>
                        rw [p4] at hl
                        have P4 := Lib.hid p4
                        clear p4
                        go_wp2
                        exact ⟨⟨k + 1, _, by omega, by go_num, by rw [layVTo_succ, Hsk.out, Hlay.out, P0.out, P1.out, P2.out, P3.out, P4.out]; rfl, E5.out⟩, by simp [intOf]; omega⟩
            · have Hq := Lib.hid hq
              clear hsk hq
              go_wp2
              go_ret
              obtain rfl : k = n := by omega
              exact ⟨by rw [hx, hy, Hsk.out]; rfl, q, Hq.out⟩
    · have g2 : (n : Int) > 12 := by omega
      have hv : validG ⟨n, L, x, y⟩ = false := by simp [validG, h2]
      rw [hv]
      go_enter Tryz.func76, Tryz.ntmps76
      go_wp2
      go_ret
      exact ⟨rfl, 0, rfl⟩
  · have g1 : (n : Int) < 1 := by omega
    have hv : validG ⟨n, L, x, y⟩ = false := by simp [validG, h1]
    rw [hv]
    go_enter Tryz.func76, Tryz.ntmps76
    go_wp2
    go_ret
    exact ⟨rfl, 0, rfl⟩
end Go.Proofs.YtjbaebgdebcipaaGreatDoor
