/- Walks: SameGather and SameDesk of the reference. -/
import Derived.Test.YtalajgjdceoleaaW23
namespace Go.Proofs.Ytalajgjdceoleaa
open Go Go.RowKit

set_option maxRecDepth 100000 in
set_option maxHeartbeats 2000000 in
theorem specSameGather_any (w : World) (u1 u2 : Value) (S T : TM) (h1 : RdT w u1 S) (h2 : RdT w u2 T) (hs : S.small) (ht : T.small) :
    Calls Try.prog 33 #[u1, u2] w fun e w' => e = .returned (.bool (sameT S T)) ∧ Below w.heap.size w w' := by
  obtain ⟨vp, vt, rfl, p1, t1⟩ := h1
  obtain ⟨vp', vt', rfl, p2, t2⟩ := h2
  obtain ⟨t, P, A⟩ := S
  obtain ⟨t', P', B⟩ := T
  obtain ⟨m1, m2, m3⟩ := hs
  obtain ⟨n1, n2, n3⟩ := ht
  simp only at *
  obtain ⟨x1, y1, rfl, -, -, hcell1⟩ := t1.opened
  obtain ⟨x2, y2, rfl, -, -, hcell2⟩ := t2.opened
  have hb0 : Below w.heap.size w ((w.alloc (.cells #[.int .i64 t, vp, .slice x1 A.length y1] 32)).alloc (.cells #[.int .i64 t', vp', .slice x2 B.length y2] 32)) := by (repeat (first | exact Below.refl _ _ | (refine Below.drewN ?_ _) | (refine Below.alloc ?_ (by first | exact Nat.le_refl _ | (simp; done) | (simp; omega)) _)))
  have hh := heap2 w (.cells #[.int .i64 t, vp, .slice x1 A.length y1] 32) (.cells #[.int .i64 t', vp', .slice x2 B.length y2] 32)
  by_cases e1 : t = t'
  · subst e1
    by_cases hl : A.length = B.length
    · have hne : ((A.length : Int) != (B.length : Int)) = false := by rw [hl]; simp
      have Hl := Lib.hid hl
      clear hl
      go_enter Try.func33, Try.ntmps33
      go_wp2_with fail
      refine (l01SameAll_any _ _ _ P P' (p1.mono hb0) (p2.mono hb0) m1 n1).mono ?_
      rintro e w1 ⟨rfl, n, hw1⟩
      generalize ((w.alloc (.cells #[.int .i64 t, vp, .slice x1 A.length y1] 32)).alloc (.cells #[.int .i64 t, vp', .slice x2 B.length y2] 32)) = w0 at *
      obtain ⟨-, -, i2, -, -, -⟩ := blk3 hh.1
      obtain ⟨-, -, j2, -, -, -⟩ := blk3 hh.2
      have hw : ∀ p, w1.cell? p = w0.cell? p := fun p => by rw [hw1]; rfl
      rw [← hw] at i2 j2
      cases q1 : sameL P P' with
      | false =>
        go_wp2
        go_ret
        exact ⟨by unfold sameT; rw [q1]; simp, Below.drewN hb0 _⟩
      | true =>
        have Q1 := Lib.hid q1
        have Hw1 := Lib.hid hw1
        have Hw := Lib.hid hw
        have Hb0 := Lib.hid hb0
        clear q1 hw1 hw hb0 hh
        go_wp2
        go_loopw [5] (fun i wr => ∃ k q : Nat, k ≤ A.length ∧ i = .int .i64 k ∧ sameSTo A B k = true ∧ wr = w0.drewN q) (fun i _ => A.length - (intOf i).toNat)
        case atStart => exact ⟨0, n, Nat.zero_le _, rfl, rfl, Hw1.out⟩
        case round =>
          obtain ⟨wi, rfl⟩ : ∃ wi : World, wi = wr := ⟨_, rfl⟩
          obtain ⟨k, q, hk, rfl, hsk, hq⟩ := hrel
          have Hsk := Lib.hid hsk
          have hv : ∀ p, wi.cell? p = w0.cell? p := fun p => by rw [hq]; rfl
          rw [Hw.out, ← hv] at i2 j2
          have hb0 := Hb0.out
          by_cases hlt : k < A.length
          · have hlt2 : k < B.length := by have := Hl.out; omega
            obtain ⟨b, o, a', c', rfl, hlb, d0, R0⟩ := hcell1 k hlt
            obtain ⟨b', o', a'', c'', rfl, hlb', g0, S0⟩ := hcell2 k hlt2
            have hak := m3 k hlt
            have hbk := n3 k hlt2
            rw [← (bcell hb0).1 _ _ hlb, ← hv] at d0
            rw [← (bcell hb0).1 _ _ hlb', ← hv] at g0
            have hbi : Below w.heap.size w wi := by rw [hq]; exact Below.drewN hb0 _
            have R1 := Lib.hid (RdF.mono R0 hbi)
            have S1 := Lib.hid (RdF.mono S0 hbi)
            have Hq := Lib.hid hq
            clear hcell1 hcell2 hsk hq hv hb0 hbi R0 S0
            go_wp2
            cases hxy : sameL (rowAt A k) (rowAt B k) with
            | true =>
              have Hxy := Lib.hid hxy
              clear hxy
              refine region_rel_all (by kernel_rfl) (by kernel_rfl) (Drawn wi) (fun _ _ v => v = .bool true) ⟨1, rfl⟩ ?_
              repeat (refine wpRel_draw rfl rfl (fun nq K hK => ?_); go_wp2)
              refine wpRel_callF #[.slice a' (rowAt A k).length c', .slice a'' (rowAt B k).length c''] Try.func59 (by kernel_rfl) (by kernel_rfl) (by simp [go_sem]) ⟨wi, 0, rfl⟩ ⟨_, rfl⟩ ?_ ?_
              · rintro wd ⟨nd, rfl⟩
                refine (l01SameAll_any (wi.drewN nd) _ _ _ _ (RdF.drewN R1.out _) (RdF.drewN S1.out _) hak hbk).mono ?_
                rintro e w'' ⟨rfl, n2, rfl⟩
                exact ⟨_, rfl, by rw [Hxy.out], nd + n2, World.drewN_drewN _ _ _⟩
              · rintro v rfl
                simp only [Act.put, List.setIfInBounds_toArray, List.set_cons_succ, List.set_cons_zero]
                repeat (refine wpRel_draw rfl rfl (fun nq K hK => ?_); go_wp2)
                refine wpRel_nil ?_
                rintro wd ⟨nd, hwd⟩
                have Hwd := Lib.hid hwd
                clear hwd
                go_wp2
                exact ⟨⟨k + 1, q + nd, by omega, by go_num, by rw [sameSTo_succ, Hsk.out, Hxy.out]; rfl, by rw [Hwd.out, Hq.out, World.drewN_drewN]⟩, by simp [intOf]; omega⟩
            | false =>
              have Hxy := Lib.hid hxy
              clear hxy
              refine region_rel_all (by kernel_rfl) (by kernel_rfl) (Drawn wi) (fun _ _ v => v = .bool false) ⟨1, rfl⟩ ?_
              repeat (refine wpRel_draw rfl rfl (fun nq K hK => ?_); go_wp2)
              refine wpRel_callF #[.slice a' (rowAt A k).length c', .slice a'' (rowAt B k).length c''] Try.func59 (by kernel_rfl) (by kernel_rfl) (by simp [go_sem]) ⟨wi, 0, rfl⟩ ⟨_, rfl⟩ ?_ ?_
              · rintro wd ⟨nd, rfl⟩
                refine (l01SameAll_any (wi.drewN nd) _ _ _ _ (RdF.drewN R1.out _) (RdF.drewN S1.out _) hak hbk).mono ?_
                rintro e w'' ⟨rfl, n2, rfl⟩
                exact ⟨_, rfl, by rw [Hxy.out], nd + n2, World.drewN_drewN _ _ _⟩
              · rintro v rfl
                simp only [Act.put, List.setIfInBounds_toArray, List.set_cons_succ, List.set_cons_zero]
                repeat (refine wpRel_draw rfl rfl (fun nq K hK => ?_); go_wp2)
                refine wpRel_nil ?_
                rintro wd ⟨nd, hwd⟩
                have Hwd := Lib.hid hwd
                clear hwd
                go_wp2
                go_ret
                exact ⟨by unfold sameT sameSS; rw [sameSTo_false hlt Hxy.out]; simp, by rw [Hwd.out, Hq.out, World.drewN_drewN]; exact Below.drewN Hb0.out _⟩
          · have Hq := Lib.hid hq
            clear hq hsk hv hb0
            go_wp2
            go_ret
            obtain rfl : k = A.length := by omega
            exact ⟨by unfold sameT sameSS; rw [Q1.out, Hsk.out, Hl.out]; simp, by rw [Hq.out]; exact Below.drewN Hb0.out _⟩
    · have hne : ((A.length : Int) != (B.length : Int)) = true := by simp; omega
      have hr : sameT ⟨t, P, A⟩ ⟨t, P', B⟩ = false := by unfold sameT; rw [sameSS_len hl]; simp
      rw [hr]
      clear hr
      go_enter Try.func33, Try.ntmps33
      go_wp2
      go_ret
      exact ⟨rfl, hb0⟩
  · have hr : sameT ⟨t, P, A⟩ ⟨t', P', B⟩ = false := by simp [sameT, e1]
    rw [hr]
    have e3 : (t != t') = true := by simpa using e1
    clear hr
    go_enter Try.func33, Try.ntmps33
    go_wp2
    go_ret
    exact ⟨rfl, hb0⟩

set_option maxRecDepth 100000 in
set_option maxHeartbeats 800000 in
theorem specSameDesk_any (w : World) (u1 u2 : Value) (F G : KM) (h1 : RdK w u1 F) (h2 : RdK w u2 G) (hs : F.G.small) (ht : G.G.small) (hs2 : F.T.small) (ht2 : G.T.small) :
    Calls Try.prog 15 #[u1, u2] w fun e w' => e = .returned (.bool (sameK F G)) ∧ Below w.heap.size w w' := by
  obtain ⟨v, r, s, vp, vt, rfl, g1, t1⟩ := h1
  obtain ⟨v', r', s', vp', vt', rfl, g2, t2⟩ := h2
  have hb0 : Below w.heap.size w ((w.alloc (.cells #[v, .float .f32 r, .float .f32 s, .int .i64 F.T.t, vp, vt] 34)).alloc (.cells #[v', .float .f32 r', .float .f32 s', .int .i64 G.T.t, vp', vt'] 34)) := by (repeat (first | exact Below.refl _ _ | (refine Below.drewN ?_ _) | (refine Below.alloc ?_ (by first | exact Nat.le_refl _ | (simp; done) | (simp; omega)) _)))
  go_enter Try.func15, Try.ntmps15
  go_wp2_with fail
  refine (specSameGround_any _ _ _ F.G G.G (g1.mono hb0) (g2.mono hb0) hs ht).mono ?_
  rintro e1 w1 ⟨rfl, b1⟩
  have hb1 := hb0.trans (b1.mono hb0.size)
  have T1 := t1.mono hb1
  have T2 := t2.mono hb1
  have k0 : w1.cell? ⟨w.heap.size, 3, none⟩ = some (.int .i64 F.T.t) := by rw [(bcell b1).1 _ _ (by simp; omega)]; simp [go_sem]
  have k1 : w1.cell? ⟨w.heap.size, 4, none⟩ = some vp := by rw [(bcell b1).1 _ _ (by simp; omega)]; simp [go_sem]
  have k2 : w1.cell? ⟨w.heap.size, 5, none⟩ = some vt := by rw [(bcell b1).1 _ _ (by simp; omega)]; simp [go_sem]
  have k3 : w1.cell? ⟨w.heap.size + 1, 3, none⟩ = some (.int .i64 G.T.t) := by rw [(bcell b1).1 _ _ (by simp)]; simp [go_sem]
  have k4 : w1.cell? ⟨w.heap.size + 1, 4, none⟩ = some vp' := by rw [(bcell b1).1 _ _ (by simp)]; simp [go_sem]
  have k5 : w1.cell? ⟨w.heap.size + 1, 5, none⟩ = some vt' := by rw [(bcell b1).1 _ _ (by simp)]; simp [go_sem]
  cases q1 : sameG F.G G.G with
  | false =>
    go_wp2
    go_ret
    exact ⟨by unfold sameK; rw [q1]; rfl, hb1⟩
  | true =>
    go_wp2_with fail
    refine (specSameGather_any _ _ _ F.T G.T T1 T2 hs2 ht2).mono ?_
    rintro e2 w2 ⟨rfl, b2⟩
    go_wp2
    go_ret
    exact ⟨by unfold sameK; rw [q1]; rfl, hb1.trans (b2.mono hb1.size)⟩
end Go.Proofs.Ytalajgjdceoleaa
